/-
  The walks of the statements on sweep.
-/
import Derived.Test.YtadohkidfkbncaaSwpW
import Derived.Test.YtadohkidfkbncaaSwpQ
import Derived.Test.YtadohkidfkbncaaGlyph
namespace Go.Proofs.Ytadohkidfkbncaa
open Go.RowKit
set_option linter.unusedSimpArgs false
attribute [local go_sem ↓] Go.wp_at_zero Go.wp_at_succ

/-- A grid by numbers. -/
structure Spc where
  x : Int
  y : Int
  p : Int
  u : Int
  v : Int
  s : Int
def Byt (x : Int) : Prop := 0 ≤ x ∧ x ≤ 255
def Spc.ok (s : Spc) : Prop := Byt s.x ∧ Byt s.y ∧ Byt s.p ∧ Byt s.u ∧ Byt s.v ∧ Byt s.s
def Spc.grd (s : Spc) : Grd := ⟨s.x - 128, s.y - 128, 1 + s.p % 16, 1 + s.u % 10, 1 + s.v % 10, 1 + s.s % 64⟩
theorem Spc.grd_ok {s : Spc} (h : s.ok) : s.grd.ok := by
  obtain ⟨⟨a1, a2⟩, ⟨b1, b2⟩, ⟨c1, c2⟩, ⟨d1, d2⟩, ⟨e1, e2⟩, f1, f2⟩ := h
  unfold Grd.ok Spc.grd Bd
  simp only
  omega
theorem spc_c {s : Spc} (h : s.ok) (w : World) :
    Calls Try.prog 12 #[.agg #[.int .u8 s.x, .int .u8 s.y, .int .u8 s.p, .int .u8 s.u, .int .u8 s.v, .int .u8 s.s]] w fun e w' => e = .returned (.agg #[(.int .i64 (s.grd.x)), (.int .i64 (s.grd.y)), (.int .i64 (s.grd.p)), (.int .i64 (s.grd.w)), (.int .i64 (s.grd.h)), (.int .i64 (s.grd.s))]) ∧ Below w.heap.size w w' := by
  obtain ⟨⟨a1, a2⟩, ⟨b1, b2⟩, ⟨c1, c2⟩, ⟨d1, d2⟩, ⟨e1, e2⟩, f1, f2⟩ := h
  exact spec_c _ _ _ _ _ _ w a1 a2 b1 b2 c1 c2 d1 d2 e1 e2 f1 f2

def Spc.val (s : Spc) : Value := .agg #[.int .u8 s.x, .int .u8 s.y, .int .u8 s.p, .int .u8 s.u, .int .u8 s.v, .int .u8 s.s]

/-- The texel of a number. -/
theorem tx_num {g : Grd} (hg : g.ok) {n : Nat} (hn : n < cellsN g) :
    inG g ((n % g.w.toNat : Nat) : Int) ((n / g.w.toNat : Nat) : Int) ∧ ixOf g ((n % g.w.toNat : Nat) : Int) ((n / g.w.toNat : Nat) : Int) = n ∧ (n : Int).tmod g.w = ((n % g.w.toNat : Nat) : Int) ∧ (n : Int).tdiv g.w = ((n / g.w.toNat : Nat) : Int) := by
  obtain ⟨w1, w2⟩ := hg.2.2.2.1
  obtain ⟨h1, h2⟩ := hg.2.2.2.2.1
  obtain ⟨W, hW⟩ := Int.eq_ofNat_of_zero_le (show 0 ≤ g.w by omega)
  obtain ⟨H, hH⟩ := Int.eq_ofNat_of_zero_le (show 0 ≤ g.h by omega)
  have hc : cellsN g = W * H := by unfold cellsN; rw [hW, hH]; rfl
  have hw : g.w.toNat = W := by rw [hW]; rfl
  rw [hw]
  have hW0 : 0 < W := by omega
  have hm := Nat.mod_lt n hW0
  have hd : n / W < H := Nat.div_lt_of_lt_mul (by rw [← hc]; exact hn)
  have he := Nat.div_add_mod n W
  have r1 : (n : Int).tmod g.w = ((n % W : Nat) : Int) := by rw [hW]; rfl
  have r2 : (n : Int).tdiv g.w = ((n / W : Nat) : Int) := by rw [hW]; rfl
  refine ⟨?_, ?_, r1, r2⟩
  · clear r1 r2
    generalize n % W = i at hm he
    generalize n / W = k at hd he
    exact ⟨by omega, by omega, by omega, by omega⟩
  · unfold ixOf
    rw [hW]
    have : ((n / W : Nat) : Int) * (W : Int) + ((n % W : Nat) : Int) = (n : Int) := by rw [Int.mul_comm]; exact_mod_cast he
    rw [this]; rfl

/-- What the texel to the right knows is no nearer. -/
theorem next_known {es : List Edg} {g : Grd} (hg : g.ok) (hok : ∀ e ∈ es, e.ok) (hne : es ≠ []) {i k : Int} {n m : Nat} {em : Edg} (hi : inG g i k) (hix : ixOf g i k = n) (hl : i + 1 < g.w) (hm : (m : Int) = getI (knownE es g) n) (hem : es[m]? = some em) :
    n + 1 < cellsN g ∧ ∃ (m2 : Nat) (em2 : Edg), (m2 : Int) = getI (knownE es g) (n + 1) ∧ es[m2]? = some em2 ∧ em2 ∈ es ∧
      decide (cmpI ((em2.sq (cen g.x g.p i) (cen g.y g.p k)).1 * (em.sq (cen g.x g.p i) (cen g.y g.p k)).2) ((em.sq (cen g.x g.p i) (cen g.y g.p k)).1 * (em2.sq (cen g.x g.p i) (cen g.y g.p k)).2) < 0) = false := by
  have hi2 : inG g (i + 1) k := ⟨by have := hi.1; omega, hi.2.1, hl, hi.2.2.2⟩
  obtain ⟨_, hsd⟩ := known_all hg hok hne hi
  obtain ⟨hk2, _⟩ := known_all hg hok hne hi2
  have hs := hsd hl
  obtain ⟨_, _, _, _, q5⟩ := ix_bd hg hi
  obtain ⟨_, _, r3, _, r5⟩ := ix_bd hg hi2
  have hix2 : ixOf g (i + 1) k = n + 1 := by omega
  unfold Kd at hk2
  unfold Side sqK at hs
  rw [hix2] at hk2 hs
  rw [hix, ← hm] at hs
  obtain ⟨m2, hm2⟩ := Int.eq_ofNat_of_zero_le hk2
  have hlt := getI_lt (knownE_kn es g) (n + 1)
  rw [hm2] at hs hlt
  obtain ⟨em2, e1, e2⟩ := get_of_lt (show m2 < es.length by omega)
  rw [sqAt_of hem, sqAt_of e1] at hs
  refine ⟨?_, m2, em2, hm2.symm, e1, e2, ?_⟩
  · obtain ⟨w1, _⟩ := hg.2.2.2.1
    obtain ⟨h1, _⟩ := hg.2.2.2.2.1
    unfold cellsN
    omega
  · unfold fle at hs
    unfold cmpI
    simp only [decide_eq_false_iff_not]
    rw [if_neg (by omega)]
    split <;> decide

set_option maxRecDepth 100000 in
set_option maxHeartbeats 16000000 in
theorem sweepAll_c {w : World} {v : Value} {dss : List (List Dt)} {s : Spc} (h : RowsAt w v dss) (hs : s.ok) :
    Calls Try.prog 3 #[v, s.val] w fun r w' => r = .returned (.bool true) ∧ Below w.heap.size w w' := by
  have HR := Lib.hid h
  have HS := Lib.hid hs
  unfold Spc.val
  clear h hs
  go_enter Try.func3, Try.ntmps3
  go_wp2_with fail
  go_call awakeS_c _ as r w1 ⟨rfl, hb1⟩
  have HB1 : Below w.heap.size w w1 := (by repeat' (first | (with_reducible exact Below.refl _ _) | (with_reducible assumption) | (with_reducible refine below_drewN ?_ _) | (with_reducible refine Below.alloc ?_ ?_ _) | (with_reducible refine Below.drew ?_) | (with_reducible refine Below.setCell ?_ ?_ _) | (with_reducible refine below_var ?_ ?_ (by assumption)) | (with_reducible refine below_own' ?_ (by assumption) (by assumption) ?_ ?_) | go_size))
  have s0 : w1.cell? ⟨w.heap.size, 0, none⟩ = some (.int .u8 s.x) := (hb1.cell (p := ⟨_, 0, none⟩) (by simp)).trans (by simp [go_sem])
  have s1 : w1.cell? ⟨w.heap.size, 1, none⟩ = some (.int .u8 s.y) := (hb1.cell (p := ⟨_, 1, none⟩) (by simp)).trans (by simp [go_sem])
  have s2 : w1.cell? ⟨w.heap.size, 2, none⟩ = some (.int .u8 s.p) := (hb1.cell (p := ⟨_, 2, none⟩) (by simp)).trans (by simp [go_sem])
  have s3 : w1.cell? ⟨w.heap.size, 3, none⟩ = some (.int .u8 s.u) := (hb1.cell (p := ⟨_, 3, none⟩) (by simp)).trans (by simp [go_sem])
  have s4 : w1.cell? ⟨w.heap.size, 4, none⟩ = some (.int .u8 s.v) := (hb1.cell (p := ⟨_, 4, none⟩) (by simp)).trans (by simp [go_sem])
  have s5 : w1.cell? ⟨w.heap.size, 5, none⟩ = some (.int .u8 s.s) := (hb1.cell (p := ⟨_, 5, none⟩) (by simp)).trans (by simp [go_sem])
  clear hb1
  go_wp2_with fail
  go_call glyph_c (HR.out.carry HB1) as r w2 ⟨⟨ve, rfl, hE⟩, hb2⟩
  have HE := Lib.hid hE
  replace s0 := (hb2.cell (World.block_lt_of_cell? _ _ s0)).trans s0
  replace s1 := (hb2.cell (World.block_lt_of_cell? _ _ s1)).trans s1
  replace s2 := (hb2.cell (World.block_lt_of_cell? _ _ s2)).trans s2
  replace s3 := (hb2.cell (World.block_lt_of_cell? _ _ s3)).trans s3
  replace s4 := (hb2.cell (World.block_lt_of_cell? _ _ s4)).trans s4
  replace s5 := (hb2.cell (World.block_lt_of_cell? _ _ s5)).trans s5
  have HB2 : Below w.heap.size w w2 := HB1.trans (hb2.mono HB1.size)
  obtain ⟨es, hes⟩ : ∃ es, es = glyphE dss := ⟨_, rfl⟩
  rw [← hes] at HE
  clear hE hb2 hes
  go_wp2_with fail
  go_call spc_c HS.out _ as r w3 ⟨rfl, hb3⟩
  have HE := Lib.hid (HE.out.carry hb3)
  have HB3 : Below w.heap.size w w3 := HB2.trans (hb3.mono HB2.size)
  have HG := Lib.hid (Spc.grd_ok HS.out)
  obtain ⟨g, hgg⟩ : ∃ g, g = s.grd := ⟨_, rfl⟩
  rw [← hgg] at HG ⊢
  clear hb3 hgg
  go_wp2_with fail
  refine calls_gen ?_
  intro W4 hW4
  have hk4 : Below w3.heap.size w3 W4 := by rw [← hW4]; exact (by repeat' (first | (with_reducible exact Below.refl _ _) | (with_reducible assumption) | (with_reducible refine below_drewN ?_ _) | (with_reducible refine Below.alloc ?_ ?_ _) | (with_reducible refine Below.drew ?_) | (with_reducible refine Below.setCell ?_ ?_ _) | (with_reducible refine below_var ?_ ?_ (by assumption)) | (with_reducible refine below_own' ?_ (by assumption) (by assumption) ?_ ?_) | go_size))
  have c0 : W4.cell? ⟨w3.heap.size, 0, none⟩ = some ((.int .i64 (g.x))) := by rw [← hW4]; simp [go_sem]
  have c1 : W4.cell? ⟨w3.heap.size, 1, none⟩ = some ((.int .i64 (g.y))) := by rw [← hW4]; simp [go_sem]
  have c2 : W4.cell? ⟨w3.heap.size, 2, none⟩ = some ((.int .i64 (g.p))) := by rw [← hW4]; simp [go_sem]
  have c3 : W4.cell? ⟨w3.heap.size, 3, none⟩ = some ((.int .i64 (g.w))) := by rw [← hW4]; simp [go_sem]
  have c4 : W4.cell? ⟨w3.heap.size, 4, none⟩ = some ((.int .i64 (g.h))) := by rw [← hW4]; simp [go_sem]
  have c5 : W4.cell? ⟨w3.heap.size, 5, none⟩ = some ((.int .i64 (g.s))) := by rw [← hW4]; simp [go_sem]
  have HB4 : Below w.heap.size w W4 := HB3.trans (hk4.mono HB3.size)
  have HE := Lib.hid (HE.out.carry hk4)
  clear hW4 hk4
  refine (known_c HE.out HG.out).mono ?_
  rintro e5 w5 ⟨⟨u, rfl, hI⟩, hb5⟩
  replace c0 := (hb5.cell (World.block_lt_of_cell? _ _ c0)).trans c0
  replace c1 := (hb5.cell (World.block_lt_of_cell? _ _ c1)).trans c1
  replace c2 := (hb5.cell (World.block_lt_of_cell? _ _ c2)).trans c2
  replace c3 := (hb5.cell (World.block_lt_of_cell? _ _ c3)).trans c3
  replace c4 := (hb5.cell (World.block_lt_of_cell? _ _ c4)).trans c4
  replace c5 := (hb5.cell (World.block_lt_of_cell? _ _ c5)).trans c5
  have HB5 : Below w.heap.size w w5 := HB4.trans (hb5.mono HB4.size)
  have HE := Lib.hid (HE.out.carry hb5)
  obtain ⟨A, capA, rfl, _, hcA⟩ := hI
  have HCA := Lib.hid hcA
  have hlen := knownE_len es g
  rw [hlen]
  have hcn : ((cellsN g : Nat) : Int) = g.w * g.h := by
    obtain ⟨a1, _⟩ := HG.out.2.2.2.1
    obtain ⟨a2, _⟩ := HG.out.2.2.2.2.1
    have := Int.mul_nonneg (show 0 ≤ g.w by omega) (show 0 ≤ g.h by omega)
    unfold cellsN; omega
  have hcb : cellsN g ≤ 576 := by
    obtain ⟨a1, a3⟩ := HG.out.2.2.2.1
    obtain ⟨a2, a4⟩ := HG.out.2.2.2.2.1
    have := Int.mul_le_mul a3 a4 (by omega) (by omega)
    omega
  have hw0 : 0 ≤ g.w * g.h := by omega
  have hw1 : g.w * g.h ≤ 576 := by omega
  have HLEN := Lib.hid hlen
  have HCN := Lib.hid hcn
  have ht : ((cellsN g : Int) != g.w * g.h) = false := by rw [hcn]; simp
  have nc := blt c0
  clear hlen hcA hb5 hcn
  go_wp2_with fail
  clear ht
  go_loopw [30] (fun k wr => ∃ n : Nat, n ≤ cellsN g ∧ k = (.int .i64 (n)) ∧ Below w5.heap.size w5 wr) (fun k wr => cellsN g - (intOf k).toNat)
  case atStart => exact ⟨0, by omega, rfl, Below.refl _ _⟩
  case round =>
    obtain ⟨n, hn, rfl, hB⟩ := hrel
    replace c0 := (hB.cell (World.block_lt_of_cell? _ _ c0)).trans c0
    replace c1 := (hB.cell (World.block_lt_of_cell? _ _ c1)).trans c1
    replace c2 := (hB.cell (World.block_lt_of_cell? _ _ c2)).trans c2
    replace c3 := (hB.cell (World.block_lt_of_cell? _ _ c3)).trans c3
    replace c4 := (hB.cell (World.block_lt_of_cell? _ _ c4)).trans c4
    replace c5 := (hB.cell (World.block_lt_of_cell? _ _ c5)).trans c5
    have nG := blt c0
    by_cases hlt : n < cellsN g
    · obtain ⟨hin, hix, r1, r2⟩ := tx_num HG.out hlt
      obtain ⟨m, hm⟩ : ∃ m, m = getI (knownE es g) n := ⟨_, rfl⟩
      have a0 := (hB.cell (blt (HCA.out n m (by rw [hm]; unfold getI; rw [List.getElem?_eq_getElem (by rw [HLEN.out]; exact hlt)]; rfl)))).trans (HCA.out n m (by rw [hm]; unfold getI; rw [List.getElem?_eq_getElem (by rw [HLEN.out]; exact hlt)]; rfl))
      have hml : m < es.length := by rw [hm]; exact getI_lt (knownE_kn es g) _
      obtain ⟨b, vc, va, rfl, hel, hva, hok, hEc⟩ := HE.out.carry hB
      by_cases hne : es = []
      · have h0 : es.length ≤ 0 := by rw [hne]; simp
        have hm0 : decide (0 ≤ m) = false := by simp; omega
        have hm1 : decide (m < 0) = true := by simp; omega
        have hl0 : decide (0 < es.length) = false := by simp [hne]
        have hl1 : decide ((es.length : Int) ≤ m) = false := by simp; omega
        clear hm hml hva hok hEc hne r1 r2 hix h0
        go_wp2_with fail
        go_quiet (fail)
        go_wp2_with fail
        go_roundw
        case rel => exact ⟨n + 1, by omega, by go_num, below_drewN hB _⟩
        case measure => simp [intOf]; omega
      · have hpos : 0 < es.length := List.length_pos_iff.2 hne
        obtain ⟨hkd, hside⟩ := known_all HG.out hok hne hin
        have hm0 : 0 ≤ m := by rw [hm, ← hix]; exact hkd
        obtain ⟨m', rfl⟩ := Int.eq_ofNat_of_zero_le hm0
        obtain ⟨em, hem1, hem2⟩ := get_of_lt (show m' < es.length by omega)
        obtain ⟨b0, b1, b2, b3⟩ := hEc m' em hem1
        obtain rfl := hva (ne_nil_of_lt hpos)
        generalize ((n % g.w.toNat : Nat) : Int) = i at hin hix r1 hside
        generalize ((n / g.w.toNat : Nat) : Int) = k at hin hix r2 hside
        obtain ⟨i1, i2, i3, i4⟩ := hin
        obtain ⟨w1', w2'⟩ := HG.out.2.2.2.1
        obtain ⟨h1', h2'⟩ := HG.out.2.2.2.2.1
        have R := Lib.hid (And.intro r1 r2)
        have u1 : IntKind.i64.wrap (g.w - 1) = g.w - 1 := IntWalk.i64_in _ (by omega)
        clear r1 r2
        by_cases hlast : i + 1 < g.w
        · obtain ⟨hn1, m2, em2, hm2, hem3, hem4, hdec⟩ := next_known HG.out hok hne ⟨i1, i2, i3, i4⟩ hix hlast hm hem1
          have HD := Lib.hid hdec
          have HOM := Lib.hid (hok em hem2)
          have HON := Lib.hid (hok em2 hem4)
          obtain ⟨d0, d1, d2, d3⟩ := hEc m2 em2 hem3
          have hg2 : (knownE es g)[n + 1]? = some (m2 : Int) := by rw [hm2]; unfold getI; rw [List.getElem?_eq_getElem (by rw [HLEN.out]; exact hn1)]; rfl
          have an := (hB.cell (blt (HCA.out (n + 1) _ hg2))).trans (HCA.out (n + 1) _ hg2)
          have CX := Lib.hid (cen_bd HG.out.1 HG.out.2.2.1 ⟨i1, by omega⟩)
          have CY := Lib.hid (cen_bd HG.out.2.1 HG.out.2.2.1 ⟨i2, by omega⟩)
          have hl2 : m2 < es.length := (List.getElem?_eq_some_iff.1 hem3).1
          clear hdec hem1 hem2 hem3 hem4 hm2 hg2 hok hEc
          have q1 : (i == g.w - 1) = false := by simp; omega
          have r1 := R.out.1
          have m0 : decide ((m' : Int) < 0) = false := by simp
          clear hside hva hm hix
          go_wp2_with fail
          go_quiet (fail)
          clear m0
          clear u1 r1 q1
          go_wp2_with fail
          have q1 : (n : Int).tmod g.w = i := R.out.1
          have q2 : IntKind.i64.wrap ((n : Int) / g.w) = k := by rw [show (n : Int) / g.w = k by rw [← Int.tdiv_eq_ediv_of_nonneg (by omega)]; exact R.out.2]; exact IntWalk.i64_in _ (by omega)
          have q3 : ¬ g.w = 0 := by omega
          obtain ⟨p1', p2'⟩ := HG.out.2.2.1
          obtain ⟨W1, hW1⟩ : ∃ W1, W1 = wr.drewN nq := ⟨_, rfl⟩
          have hB1 : Below w5.heap.size w5 W1 := by rw [hW1]; exact below_drewN hB _
          have hBd : Below wr.heap.size wr W1 := by rw [hW1]; exact below_drewN (Below.refl _ _) _
          replace c0 := (hBd.cell (World.block_lt_of_cell? _ _ c0)).trans c0
          replace c1 := (hBd.cell (World.block_lt_of_cell? _ _ c1)).trans c1
          replace c2 := (hBd.cell (World.block_lt_of_cell? _ _ c2)).trans c2
          replace c3 := (hBd.cell (World.block_lt_of_cell? _ _ c3)).trans c3
          replace c4 := (hBd.cell (World.block_lt_of_cell? _ _ c4)).trans c4
          replace c5 := (hBd.cell (World.block_lt_of_cell? _ _ c5)).trans c5
          replace b0 := (hBd.cell (World.block_lt_of_cell? _ _ b0)).trans b0
          replace b1 := (hBd.cell (World.block_lt_of_cell? _ _ b1)).trans b1
          replace b2 := (hBd.cell (World.block_lt_of_cell? _ _ b2)).trans b2
          replace b3 := (hBd.cell (World.block_lt_of_cell? _ _ b3)).trans b3
          replace a0 := (hBd.cell (World.block_lt_of_cell? _ _ a0)).trans a0
          replace an := (hBd.cell (World.block_lt_of_cell? _ _ an)).trans an
          replace d0 := (hBd.cell (World.block_lt_of_cell? _ _ d0)).trans d0
          replace d1 := (hBd.cell (World.block_lt_of_cell? _ _ d1)).trans d1
          replace d2 := (hBd.cell (World.block_lt_of_cell? _ _ d2)).trans d2
          replace d3 := (hBd.cell (World.block_lt_of_cell? _ _ d3)).trans d3
          rw [← hW1]
          clear hW1 hBd hB
          have nc := blt c0
          have GX := Lib.hid (HG.out.1)
          have GY := Lib.hid (HG.out.2.1)
          go_cut [10] (fun s10 wx => ∃ H : Nat, s10 = .pointer (some ⟨H, 0, none⟩) ∧ wx.cell? ⟨H, 0, none⟩ = some (.int .i64 (cen g.x g.p i)) ∧ wx.cell? ⟨H, 1, none⟩ = some (.int .i64 (cen g.y g.p k)) ∧ Below W1.heap.size W1 wx)
          case first =>
            have HS : Hid (∀ w', Below (W1.heap.size) W1 w' → (Below (W1.heap.size) W1 w' ∧ w'.cell? ⟨w3.heap.size, 0, none⟩ = some ((.int .i64 (g.x))) ∧ w'.cell? ⟨w3.heap.size, 1, none⟩ = some ((.int .i64 (g.y))) ∧ w'.cell? ⟨w3.heap.size, 2, none⟩ = some ((.int .i64 (g.p))) ∧ w'.cell? ⟨w3.heap.size, 3, none⟩ = some ((.int .i64 (g.w))) ∧ w'.cell? ⟨w3.heap.size, 4, none⟩ = some ((.int .i64 (g.h))) ∧ w'.cell? ⟨w3.heap.size, 5, none⟩ = some ((.int .i64 (g.s))))) := fun w' h => ⟨h, (h.cell (p := ⟨w3.heap.size, 0, none⟩) (by first | exact World.block_lt_of_cell? W1 _ (show W1.cell? ⟨w3.heap.size, 0, none⟩ = some ((.int .i64 (g.x))) by assumption) | go_size)).trans (by assumption), (h.cell (p := ⟨w3.heap.size, 1, none⟩) (by first | exact World.block_lt_of_cell? W1 _ (show W1.cell? ⟨w3.heap.size, 1, none⟩ = some ((.int .i64 (g.y))) by assumption) | go_size)).trans (by assumption), (h.cell (p := ⟨w3.heap.size, 2, none⟩) (by first | exact World.block_lt_of_cell? W1 _ (show W1.cell? ⟨w3.heap.size, 2, none⟩ = some ((.int .i64 (g.p))) by assumption) | go_size)).trans (by assumption), (h.cell (p := ⟨w3.heap.size, 3, none⟩) (by first | exact World.block_lt_of_cell? W1 _ (show W1.cell? ⟨w3.heap.size, 3, none⟩ = some ((.int .i64 (g.w))) by assumption) | go_size)).trans (by assumption), (h.cell (p := ⟨w3.heap.size, 4, none⟩) (by first | exact World.block_lt_of_cell? W1 _ (show W1.cell? ⟨w3.heap.size, 4, none⟩ = some ((.int .i64 (g.h))) by assumption) | go_size)).trans (by assumption), (h.cell (p := ⟨w3.heap.size, 5, none⟩) (by first | exact World.block_lt_of_cell? W1 _ (show W1.cell? ⟨w3.heap.size, 5, none⟩ = some ((.int .i64 (g.s))) by assumption) | go_size)).trans (by assumption)⟩
            go_region_held3 (fun w' => Below (W1.heap.size) W1 w' ∧ w'.cell? ⟨w3.heap.size, 0, none⟩ = some ((.int .i64 (g.x))) ∧ w'.cell? ⟨w3.heap.size, 1, none⟩ = some ((.int .i64 (g.y))) ∧ w'.cell? ⟨w3.heap.size, 2, none⟩ = some ((.int .i64 (g.p))) ∧ w'.cell? ⟨w3.heap.size, 3, none⟩ = some ((.int .i64 (g.w))) ∧ w'.cell? ⟨w3.heap.size, 4, none⟩ = some ((.int .i64 (g.h))) ∧ w'.cell? ⟨w3.heap.size, 5, none⟩ = some ((.int .i64 (g.s)))) (exact HS.out _ (by repeat' (first | (with_reducible exact Below.refl _ _) | (with_reducible assumption) | (with_reducible refine below_drewN ?_ _) | (with_reducible refine Below.alloc ?_ ?_ _) | (with_reducible refine Below.drew ?_) | (with_reducible refine Below.setCell ?_ ?_ _) | (with_reducible refine below_var ?_ ?_ (by assumption)) | (with_reducible refine below_own' ?_ (by assumption) (by assumption) ?_ ?_) | go_size))) (first | (go_at_call 14; refine (centre_c g i k _ (GX.out.mono (by omega)) (GY.out.mono (by omega)) (by omega) (by omega) i1 (by omega) i2 (by omega)).mono ?_; rintro e w' ⟨rfl, hb⟩; obtain ⟨hc, hf, hs⟩ := bcell3 hb; have hz := hb.size; (try simp only [World.size_alloc, World.size_setCell, World.size_drew, World.heap_drewN] at hz); (try have hq0 : W1.heap.size < w'.heap.size := by omega); (try have hq1 : W1.heap.size + 1 < w'.heap.size := by omega)))
            clear HS
            all_goals
              go_wp2_with fail
              go_meet
              case rel => exact ⟨_, rfl, by go_simp, by go_simp, (by repeat' (first | (with_reducible exact Below.refl _ _) | (with_reducible assumption) | (with_reducible refine below_drewN ?_ _) | (with_reducible refine Below.alloc ?_ ?_ _) | (with_reducible refine Below.drew ?_) | (with_reducible refine Below.setCell ?_ ?_ _) | (with_reducible refine below_var ?_ ?_ (by assumption)) | (with_reducible refine below_own' ?_ (by assumption) (by assumption) ?_ ?_) | go_size))⟩
          case rest =>
            obtain ⟨W2, hW2⟩ : ∃ W2, W2 = wc := ⟨_, rfl⟩
            subst hW2
            obtain ⟨H, rfl, t0, t1, hB2⟩ := hcut
            replace b0 := (hB2.cell (World.block_lt_of_cell? _ _ b0)).trans b0
            replace b1 := (hB2.cell (World.block_lt_of_cell? _ _ b1)).trans b1
            replace b2 := (hB2.cell (World.block_lt_of_cell? _ _ b2)).trans b2
            replace b3 := (hB2.cell (World.block_lt_of_cell? _ _ b3)).trans b3
            replace an := (hB2.cell (World.block_lt_of_cell? _ _ an)).trans an
            replace d0 := (hB2.cell (World.block_lt_of_cell? _ _ d0)).trans d0
            replace d1 := (hB2.cell (World.block_lt_of_cell? _ _ d1)).trans d1
            replace d2 := (hB2.cell (World.block_lt_of_cell? _ _ d2)).trans d2
            replace d3 := (hB2.cell (World.block_lt_of_cell? _ _ d3)).trans d3
            have HB6 : Below w5.heap.size w5 W2 := hB1.trans (hB2.mono hB1.size)
            clear q1 q2 q3 c0 c1 c2 c3 c4 c5 a0 nc hB2 hB1
            have q1 : IntKind.i64.wrap ((n : Int) + 1) = (n : Int) + 1 := IntWalk.i64_in _ (by omega)
            have q2 : (0 : Int) ≤ (n : Int) + 1 := by omega
            have q3 : (n : Int) + 1 < (cellsN g : Int) := by omega
            have FM := Lib.hid (Edg.sq_fine HOM.out CX.out CY.out)
            have FN := Lib.hid (Edg.sq_fine HON.out CX.out CY.out)
            have hD := HD.out
            go_upto_region 15 with fail
            go_cut [86] (fun s wx => s = .bool false ∧ Below W2.heap.size W2 wx)
            case first =>
              have HS : Hid (∀ w', Below (W2.heap.size) W2 w' → (Below (W2.heap.size) W2 w' ∧ w'.cell? ⟨A, n + 1, none⟩ = some ((.int .i64 (m2))) ∧ w'.cell? ⟨b, m2 * 4, none⟩ = some ((.int .i64 (em2.ax))) ∧ w'.cell? ⟨b, m2 * 4 + 1, none⟩ = some ((.int .i64 (em2.ay))) ∧ w'.cell? ⟨b, m2 * 4 + 2, none⟩ = some ((.int .i64 (em2.bx))) ∧ w'.cell? ⟨b, m2 * 4 + 3, none⟩ = some ((.int .i64 (em2.bz))) ∧ w'.cell? ⟨b, m' * 4, none⟩ = some ((.int .i64 (em.ax))) ∧ w'.cell? ⟨b, m' * 4 + 1, none⟩ = some ((.int .i64 (em.ay))) ∧ w'.cell? ⟨b, m' * 4 + 2, none⟩ = some ((.int .i64 (em.bx))) ∧ w'.cell? ⟨b, m' * 4 + 3, none⟩ = some ((.int .i64 (em.bz))) ∧ w'.cell? ⟨H, 0, none⟩ = some ((.int .i64 (cen g.x g.p i))) ∧ w'.cell? ⟨H, 1, none⟩ = some ((.int .i64 (cen g.y g.p k))))) := fun w' h => ⟨h, (h.cell (p := ⟨A, n + 1, none⟩) (by first | exact World.block_lt_of_cell? W2 _ (show W2.cell? ⟨A, n + 1, none⟩ = some ((.int .i64 (m2))) by assumption) | go_size)).trans (by assumption), (h.cell (p := ⟨b, m2 * 4, none⟩) (by first | exact World.block_lt_of_cell? W2 _ (show W2.cell? ⟨b, m2 * 4, none⟩ = some ((.int .i64 (em2.ax))) by assumption) | go_size)).trans (by assumption), (h.cell (p := ⟨b, m2 * 4 + 1, none⟩) (by first | exact World.block_lt_of_cell? W2 _ (show W2.cell? ⟨b, m2 * 4 + 1, none⟩ = some ((.int .i64 (em2.ay))) by assumption) | go_size)).trans (by assumption), (h.cell (p := ⟨b, m2 * 4 + 2, none⟩) (by first | exact World.block_lt_of_cell? W2 _ (show W2.cell? ⟨b, m2 * 4 + 2, none⟩ = some ((.int .i64 (em2.bx))) by assumption) | go_size)).trans (by assumption), (h.cell (p := ⟨b, m2 * 4 + 3, none⟩) (by first | exact World.block_lt_of_cell? W2 _ (show W2.cell? ⟨b, m2 * 4 + 3, none⟩ = some ((.int .i64 (em2.bz))) by assumption) | go_size)).trans (by assumption), (h.cell (p := ⟨b, m' * 4, none⟩) (by first | exact World.block_lt_of_cell? W2 _ (show W2.cell? ⟨b, m' * 4, none⟩ = some ((.int .i64 (em.ax))) by assumption) | go_size)).trans (by assumption), (h.cell (p := ⟨b, m' * 4 + 1, none⟩) (by first | exact World.block_lt_of_cell? W2 _ (show W2.cell? ⟨b, m' * 4 + 1, none⟩ = some ((.int .i64 (em.ay))) by assumption) | go_size)).trans (by assumption), (h.cell (p := ⟨b, m' * 4 + 2, none⟩) (by first | exact World.block_lt_of_cell? W2 _ (show W2.cell? ⟨b, m' * 4 + 2, none⟩ = some ((.int .i64 (em.bx))) by assumption) | go_size)).trans (by assumption), (h.cell (p := ⟨b, m' * 4 + 3, none⟩) (by first | exact World.block_lt_of_cell? W2 _ (show W2.cell? ⟨b, m' * 4 + 3, none⟩ = some ((.int .i64 (em.bz))) by assumption) | go_size)).trans (by assumption), (h.cell (p := ⟨H, 0, none⟩) (by first | exact World.block_lt_of_cell? W2 _ (show W2.cell? ⟨H, 0, none⟩ = some ((.int .i64 (cen g.x g.p i))) by assumption) | go_size)).trans (by assumption), (h.cell (p := ⟨H, 1, none⟩) (by first | exact World.block_lt_of_cell? W2 _ (show W2.cell? ⟨H, 1, none⟩ = some ((.int .i64 (cen g.y g.p k))) by assumption) | go_size)).trans (by assumption)⟩
              go_region_held3 (fun w' => Below (W2.heap.size) W2 w' ∧ w'.cell? ⟨A, n + 1, none⟩ = some ((.int .i64 (m2))) ∧ w'.cell? ⟨b, m2 * 4, none⟩ = some ((.int .i64 (em2.ax))) ∧ w'.cell? ⟨b, m2 * 4 + 1, none⟩ = some ((.int .i64 (em2.ay))) ∧ w'.cell? ⟨b, m2 * 4 + 2, none⟩ = some ((.int .i64 (em2.bx))) ∧ w'.cell? ⟨b, m2 * 4 + 3, none⟩ = some ((.int .i64 (em2.bz))) ∧ w'.cell? ⟨b, m' * 4, none⟩ = some ((.int .i64 (em.ax))) ∧ w'.cell? ⟨b, m' * 4 + 1, none⟩ = some ((.int .i64 (em.ay))) ∧ w'.cell? ⟨b, m' * 4 + 2, none⟩ = some ((.int .i64 (em.bx))) ∧ w'.cell? ⟨b, m' * 4 + 3, none⟩ = some ((.int .i64 (em.bz))) ∧ w'.cell? ⟨H, 0, none⟩ = some ((.int .i64 (cen g.x g.p i))) ∧ w'.cell? ⟨H, 1, none⟩ = some ((.int .i64 (cen g.y g.p k)))) (exact HS.out _ (by repeat' (first | (with_reducible exact Below.refl _ _) | (with_reducible assumption) | (with_reducible refine below_drewN ?_ _) | (with_reducible refine Below.alloc ?_ ?_ _) | (with_reducible refine Below.drew ?_) | (with_reducible refine Below.setCell ?_ ?_ _) | (with_reducible refine below_var ?_ ?_ (by assumption)) | (with_reducible refine below_own' ?_ (by assumption) (by assumption) ?_ ?_) | go_size))) (first | (go_at_call 16; refine (square_c _ (cen g.x g.p i) (cen g.y g.p k) _ (by first | exact HON.out | exact HOM.out) CX.out CY.out).mono ?_; rintro e w' ⟨rfl, hb⟩; obtain ⟨hc, hf, hs⟩ := bcell3 hb; have hz := hb.size; (try simp only [World.size_alloc, World.size_setCell, World.size_drew, World.heap_drewN] at hz); (try have hq0 : W2.heap.size < w'.heap.size := by omega); (try have hq1 : W2.heap.size + 1 < w'.heap.size := by omega)) | (go_at_call 15; refine (cmp_c _ _ _ _ _ FN.out.1 FN.out.num (by have := FN.out.2.2.1; omega) FN.out.den FM.out.1 FM.out.num (by have := FM.out.2.2.1; omega) FM.out.den).mono ?_; rintro e w' ⟨rfl, hb⟩; obtain ⟨hc, hf, hs⟩ := bcell3 hb; have hz := hb.size; (try simp only [World.size_alloc, World.size_setCell, World.size_drew, World.heap_drewN] at hz); (try have hq0 : W2.heap.size < w'.heap.size := by omega); (try have hq1 : W2.heap.size + 1 < w'.heap.size := by omega)))
              clear HS
              all_goals (go_wp2_with fail; go_meet; exact ⟨rfl, (by repeat' (first | (with_reducible exact Below.refl _ _) | (with_reducible assumption) | (with_reducible refine below_drewN ?_ _) | (with_reducible refine Below.alloc ?_ ?_ _) | (with_reducible refine Below.drew ?_) | (with_reducible refine Below.setCell ?_ ?_ _) | (with_reducible refine below_var ?_ ?_ (by assumption)) | (with_reducible refine below_own' ?_ (by assumption) (by assumption) ?_ ?_) | go_size))⟩)
            case rest =>
              obtain ⟨rfl, hb⟩ := hcut
              go_wp2_with fail
              go_roundw
              case rel => exact ⟨n + 1, by omega, by go_num, HB6.trans (hb.mono HB6.size)⟩
              case measure => simp [intOf]; omega
        · have q1 : (i == g.w - 1) = true := by simp; omega
          have r1 := R.out.1
          have m0 : decide ((m' : Int) < 0) = false := by simp
          clear hside hva hm hix
          go_wp2_with fail
          go_quiet (fail)
          clear m0
          clear u1 r1 q1
          go_wp2_with fail
          go_roundw
          case rel => exact ⟨n + 1, by omega, by go_num, below_drewN hB _⟩
          case measure => simp [intOf]; omega
    · go_wp2_with fail
      go_ret
      exact ⟨rfl, HB5.trans (hB.mono HB5.size)⟩

end Go.Proofs.Ytadohkidfkbncaa
