/-
  The second law of package 13.
-/
import Derived.Test.YtadohkidfkbncaaLawS
namespace Go.Proofs.Ytadohkidfkbncaa
open Go.RowKit
set_option linter.unusedSimpArgs false
attribute [local go_sem ↓] Go.wp_at_zero Go.wp_at_succ

theorem clampE_in {m f : Int} (h0 : 0 ≤ f) (h1 : f < m) : clampE m f = f := by unfold clampE; omega

/-- What a texel in which an edge begins knows is no farther. -/
theorem seed_fact {es : List Edg} {g : Grd} (hg : g.ok) (hok : ∀ e ∈ es, e.ok) {t : Nat} {e : Edg} (he : es[t]? = some e) {i k : Int} (hi : (e.ax - g.x * 32) / (g.p * 32) = i) (hk : (e.ay - g.y * 32) / (g.p * 32) = k) (hin : inG g i k) :
    ∃ (m : Nat) (em : Edg), (m : Int) = getI (knownE es g) (ixOf g i k) ∧ es[m]? = some em ∧ em ∈ es ∧
      decide (cmpI ((em.sq (cen g.x g.p i) (cen g.y g.p k)).1 * (e.sq (cen g.x g.p i) (cen g.y g.p k)).2) ((e.sq (cen g.x g.p i) (cen g.y g.p k)).1 * (em.sq (cen g.x g.p i) (cen g.y g.p k)).2) ≤ 0) = true := by
  have h := known_seed hg hok he
  have e1 : texI g.x g.p g.w e.ax = i := by unfold texI; rw [hi]; exact clampE_in hin.1 hin.2.2.1
  have e2 : texI g.y g.p g.h e.ay = k := by unfold texI; rw [hk]; exact clampE_in hin.2.1 hin.2.2.2
  rw [e1, e2] at h
  obtain ⟨hk2, hs⟩ := h
  unfold Kd at hk2
  unfold sqK at hs
  obtain ⟨m2, hm2⟩ := Int.eq_ofNat_of_zero_le hk2
  have hlt := getI_lt (knownE_kn es g) (ixOf g i k)
  rw [hm2] at hs hlt
  obtain ⟨em2, f1, f2⟩ := get_of_lt (show m2 < es.length by omega)
  rw [sqAt_of f1, sqAt_of he] at hs
  refine ⟨m2, em2, hm2.symm, f1, f2, ?_⟩
  unfold fle at hs
  unfold cmpI
  simp only [decide_eq_true_eq]
  split
  · decide
  · rw [if_pos (by omega)]; decide

set_option maxRecDepth 100000 in
set_option maxHeartbeats 16000000 in
theorem sweepSeed_c {w : World} {v : Value} {dss : List (List Dt)} {s : Spc} {n : Nat} (h : RowsAt w v dss) (hs : s.ok) (hn : n ≤ 255) :
    Calls Try.prog 4 #[v, s.val, .int .u8 n] w fun r w' => r = .returned (.bool true) ∧ Below w.heap.size w w' := by
  have HR := Lib.hid h
  have HS := Lib.hid hs
  unfold Spc.val
  clear h hs
  go_enter Try.func4, Try.ntmps4
  go_wp2_with fail
  go_call awakeS_c _ as r w1 ⟨rfl, hb1⟩
  have HB1 : Below w.heap.size w w1 := (by repeat' (first | (with_reducible exact Below.refl _ _) | (with_reducible assumption) | (with_reducible refine below_drewN ?_ _) | (with_reducible refine Below.alloc ?_ ?_ _) | (with_reducible refine Below.drew ?_) | (with_reducible refine Below.setCell ?_ ?_ _) | (with_reducible refine below_var ?_ ?_ (by assumption)) | (with_reducible refine below_own' ?_ (by assumption) (by assumption) ?_ ?_) | go_size))
  have s0 : w1.cell? ⟨w.heap.size, 0, none⟩ = some (.int .u8 s.x) := (hb1.cell (p := ⟨_, 0, none⟩) (by simp)).trans (by simp [go_sem])
  have s1 : w1.cell? ⟨w.heap.size, 1, none⟩ = some (.int .u8 s.y) := (hb1.cell (p := ⟨_, 1, none⟩) (by simp)).trans (by simp [go_sem])
  have s2 : w1.cell? ⟨w.heap.size, 2, none⟩ = some (.int .u8 s.p) := (hb1.cell (p := ⟨_, 2, none⟩) (by simp)).trans (by simp [go_sem])
  have s3 : w1.cell? ⟨w.heap.size, 3, none⟩ = some (.int .u8 s.u) := (hb1.cell (p := ⟨_, 3, none⟩) (by simp)).trans (by simp [go_sem])
  have s4 : w1.cell? ⟨w.heap.size, 4, none⟩ = some (.int .u8 s.v) := (hb1.cell (p := ⟨_, 4, none⟩) (by simp)).trans (by simp [go_sem])
  have s5 : w1.cell? ⟨w.heap.size, 5, none⟩ = some (.int .u8 s.s) := (hb1.cell (p := ⟨_, 5, none⟩) (by simp)).trans (by simp [go_sem])
  clear hb1
  go_wp2_with fail
  go_call glyph_c (HR.out.carry HB1) as r w2 ⟨⟨ve, rfl, hE⟩, hb2⟩
  have HE := Lib.hid hE
  replace s0 := (hb2.cell (World.block_lt_of_cell? _ _ s0)).trans s0
  replace s1 := (hb2.cell (World.block_lt_of_cell? _ _ s1)).trans s1
  replace s2 := (hb2.cell (World.block_lt_of_cell? _ _ s2)).trans s2
  replace s3 := (hb2.cell (World.block_lt_of_cell? _ _ s3)).trans s3
  replace s4 := (hb2.cell (World.block_lt_of_cell? _ _ s4)).trans s4
  replace s5 := (hb2.cell (World.block_lt_of_cell? _ _ s5)).trans s5
  have HB2 : Below w.heap.size w w2 := HB1.trans (hb2.mono HB1.size)
  obtain ⟨es, hes⟩ : ∃ es, es = glyphE dss := ⟨_, rfl⟩
  rw [← hes] at HE
  clear hE hb2 hes
  go_wp2_with fail
  go_call spc_c HS.out _ as r w3 ⟨rfl, hb3⟩
  have HE := Lib.hid (HE.out.carry hb3)
  have HB3 : Below w.heap.size w w3 := HB2.trans (hb3.mono HB2.size)
  have HG := Lib.hid (Spc.grd_ok HS.out)
  obtain ⟨g, hgg⟩ : ∃ g, g = s.grd := ⟨_, rfl⟩
  rw [← hgg] at HG ⊢
  clear hb3 hgg
  go_wp2_with fail
  refine calls_gen ?_
  intro W4 hW4
  have hk4 : Below w3.heap.size w3 W4 := by rw [← hW4]; exact (by repeat' (first | (with_reducible exact Below.refl _ _) | (with_reducible assumption) | (with_reducible refine below_drewN ?_ _) | (with_reducible refine Below.alloc ?_ ?_ _) | (with_reducible refine Below.drew ?_) | (with_reducible refine Below.setCell ?_ ?_ _) | (with_reducible refine below_var ?_ ?_ (by assumption)) | (with_reducible refine below_own' ?_ (by assumption) (by assumption) ?_ ?_) | go_size))
  have c0 : W4.cell? ⟨w3.heap.size, 0, none⟩ = some ((.int .i64 (g.x))) := by rw [← hW4]; simp [go_sem]
  have c1 : W4.cell? ⟨w3.heap.size, 1, none⟩ = some ((.int .i64 (g.y))) := by rw [← hW4]; simp [go_sem]
  have c2 : W4.cell? ⟨w3.heap.size, 2, none⟩ = some ((.int .i64 (g.p))) := by rw [← hW4]; simp [go_sem]
  have c3 : W4.cell? ⟨w3.heap.size, 3, none⟩ = some ((.int .i64 (g.w))) := by rw [← hW4]; simp [go_sem]
  have c4 : W4.cell? ⟨w3.heap.size, 4, none⟩ = some ((.int .i64 (g.h))) := by rw [← hW4]; simp [go_sem]
  have c5 : W4.cell? ⟨w3.heap.size, 5, none⟩ = some ((.int .i64 (g.s))) := by rw [← hW4]; simp [go_sem]
  have HB4 : Below w.heap.size w W4 := HB3.trans (hk4.mono HB3.size)
  have HE := Lib.hid (HE.out.carry hk4)
  clear hW4 hk4
  refine (known_c HE.out HG.out).mono ?_
  rintro e5 w5 ⟨⟨u, rfl, hI⟩, hb5⟩
  replace c0 := (hb5.cell (World.block_lt_of_cell? _ _ c0)).trans c0
  replace c1 := (hb5.cell (World.block_lt_of_cell? _ _ c1)).trans c1
  replace c2 := (hb5.cell (World.block_lt_of_cell? _ _ c2)).trans c2
  replace c3 := (hb5.cell (World.block_lt_of_cell? _ _ c3)).trans c3
  replace c4 := (hb5.cell (World.block_lt_of_cell? _ _ c4)).trans c4
  replace c5 := (hb5.cell (World.block_lt_of_cell? _ _ c5)).trans c5
  have HB5 : Below w.heap.size w w5 := HB4.trans (hb5.mono HB4.size)
  have HE := Lib.hid (HE.out.carry hb5)
  obtain ⟨A, capA, rfl, _, hcA⟩ := hI
  have HCA := Lib.hid hcA
  have hlen := knownE_len es g
  rw [hlen]
  have hcn : ((cellsN g : Nat) : Int) = g.w * g.h := by
    obtain ⟨a1, _⟩ := HG.out.2.2.2.1
    obtain ⟨a2, _⟩ := HG.out.2.2.2.2.1
    have := Int.mul_nonneg (show 0 ≤ g.w by omega) (show 0 ≤ g.h by omega)
    unfold cellsN; omega
  have hcb : cellsN g ≤ 576 := by
    obtain ⟨a1, a3⟩ := HG.out.2.2.2.1
    obtain ⟨a2, a4⟩ := HG.out.2.2.2.2.1
    have := Int.mul_le_mul a3 a4 (by omega) (by omega)
    omega
  have hw0 : 0 ≤ g.w * g.h := by omega
  have hw1 : g.w * g.h ≤ 576 := by omega
  have HLEN := Lib.hid hlen
  have HCN := Lib.hid hcn
  have nc := blt c0
  clear hlen hcA hb5
  obtain ⟨b, vc, va, rfl, hel, hva, hok, hEc⟩ := HE.out
  by_cases hne : es = []
  · have ht : ((cellsN g : Int) == g.w * g.h) = true := by rw [hcn]; simp
    have h0 : ((es.length : Int) == 0) = true := by rw [hne]; rfl
    clear hva hok hEc hne hcn
    go_wp2_with fail
    go_ret
    exact ⟨rfl, HB5⟩
  · have ht : ((cellsN g : Int) != g.w * g.h) = false := by rw [hcn]; simp
    have hpos : 0 < es.length := List.length_pos_iff.2 hne
    have h0 : ((es.length : Int) == 0) = false := by simp; omega
    have hpos2 : (1 : Int) ≤ (es.length : Int) := by omega
    have htl := Nat.mod_lt n hpos
    obtain ⟨t, htt⟩ : ∃ t, t = n % es.length := ⟨_, rfl⟩
    have q1 : (n : Int).tmod (es.length : Int) = (t : Int) := by rw [htt]; rfl
    have q2 : (t : Int) < (es.length : Int) := by omega
    rw [← htt] at htl
    obtain ⟨e, he1, he2⟩ := get_of_lt htl
    obtain ⟨a0, a1, a2, a3⟩ := hEc t e he1
    obtain rfl := hva (ne_nil_of_lt hpos)
    have HOE := Lib.hid (hok e he2)
    have HX := Lib.hid (And.intro hne (And.intro he1 (And.intro hok hEc)))
    clear hva hok hEc hne hcn htt he1 he2
    go_upto_region 9 with fail
    clear q1
    refine wp_gen ?_
    intro W6 hW6
    have hk6 : Below w5.heap.size w5 W6 := by rw [← hW6]; exact (by repeat' (first | (with_reducible exact Below.refl _ _) | (with_reducible assumption) | (with_reducible refine below_drewN ?_ _) | (with_reducible refine Below.alloc ?_ ?_ _) | (with_reducible refine Below.drew ?_) | (with_reducible refine Below.setCell ?_ ?_ _) | (with_reducible refine below_var ?_ ?_ (by assumption)) | (with_reducible refine below_own' ?_ (by assumption) (by assumption) ?_ ?_) | go_size))
    have d0 : W6.cell? ⟨w5.heap.size, 0, none⟩ = some ((.int .i64 (e.ax))) := by rw [← hW6]; simp [go_sem]
    have d1 : W6.cell? ⟨w5.heap.size, 1, none⟩ = some ((.int .i64 (e.ay))) := by rw [← hW6]; simp [go_sem]
    have d2 : W6.cell? ⟨w5.heap.size, 2, none⟩ = some ((.int .i64 (e.bx))) := by rw [← hW6]; simp [go_sem]
    have d3 : W6.cell? ⟨w5.heap.size, 3, none⟩ = some ((.int .i64 (e.bz))) := by rw [← hW6]; simp [go_sem]
    replace c0 := (hk6.cell (World.block_lt_of_cell? _ _ c0)).trans c0
    replace c1 := (hk6.cell (World.block_lt_of_cell? _ _ c1)).trans c1
    replace c2 := (hk6.cell (World.block_lt_of_cell? _ _ c2)).trans c2
    replace c3 := (hk6.cell (World.block_lt_of_cell? _ _ c3)).trans c3
    replace c4 := (hk6.cell (World.block_lt_of_cell? _ _ c4)).trans c4
    replace c5 := (hk6.cell (World.block_lt_of_cell? _ _ c5)).trans c5
    have HB6 : Below w.heap.size w W6 := HB5.trans (hk6.mono HB5.size)
    have HK6 := Lib.hid hk6
    have nd := blt d0
    have ncd : w3.heap.size < w5.heap.size := by omega
    clear hW6 hk6 a0 a1 a2 a3
    obtain ⟨x1, x2⟩ := HG.out.1
    obtain ⟨y1, y2⟩ := HG.out.2.1
    obtain ⟨p1, p2⟩ := HG.out.2.2.1
    obtain ⟨⟨o1, o2⟩, ⟨o3, o4⟩, _⟩ := HOE.out
    have t1 : IntKind.i64.wrap (32 * g.x) = g.x * 32 := by rw [Int.mul_comm]; exact IntWalk.i64_in _ (by omega)
    have t2 : IntKind.i64.wrap (32 * g.y) = g.y * 32 := by rw [Int.mul_comm]; exact IntWalk.i64_in _ (by omega)
    have t3 : IntKind.i64.wrap (e.ax - g.x * 32) = e.ax - g.x * 32 := IntWalk.i64_in _ (by omega)
    have t4 : IntKind.i64.wrap (e.ay - g.y * 32) = e.ay - g.y * 32 := IntWalk.i64_in _ (by omega)
    have t5 : IntKind.i64.wrap (32 * g.p) = g.p * 32 := by rw [Int.mul_comm]; exact IntWalk.i64_in _ (by omega)
    have r1 : -4611686018427387904 ≤ e.ax - g.x * 32 ∧ e.ax - g.x * 32 ≤ 4611686018427387904 := by clear t1 t2 t3 t4 t5; omega
    have r2 : -4611686018427387904 ≤ e.ay - g.y * 32 ∧ e.ay - g.y * 32 ≤ 4611686018427387904 := by clear t1 t2 t3 t4 t5; omega
    have r3 : 1 ≤ g.p * 32 ∧ g.p * 32 ≤ 9223372036854775807 := by clear t1 t2 t3 t4 t5; omega
    have R := Lib.hid (And.intro r1 (And.intro r2 r3))
    obtain ⟨i, hi⟩ : ∃ i, (e.ax - g.x * 32) / (g.p * 32) = i := ⟨_, rfl⟩
    obtain ⟨k, hk⟩ : ∃ k, (e.ay - g.y * 32) / (g.p * 32) = k := ⟨_, rfl⟩
    clear r1 r2 r3
    go_quiet ((go_at_call 17; exact Calls.quiet_of_same ((floor_c _ _ _ (by first | exact R.out.1.1 | exact R.out.2.1.1) (by first | exact R.out.1.2 | exact R.out.2.1.2) R.out.2.2.1 R.out.2.2.2).mono fun _ _ h => ⟨h.1, h.2.symm⟩)))
    have HIK := Lib.hid (And.intro hi hk)
    rw [hi, hk]
    obtain ⟨W7, hW7⟩ : ∃ W7, W7 = W6.drewN nq := ⟨_, rfl⟩
    have hk7 : Below W6.heap.size W6 W7 := by rw [hW7]; exact below_drewN (Below.refl _ _) _
    replace c0 := (hk7.cell (World.block_lt_of_cell? _ _ c0)).trans c0
    replace c1 := (hk7.cell (World.block_lt_of_cell? _ _ c1)).trans c1
    replace c2 := (hk7.cell (World.block_lt_of_cell? _ _ c2)).trans c2
    replace c3 := (hk7.cell (World.block_lt_of_cell? _ _ c3)).trans c3
    replace c4 := (hk7.cell (World.block_lt_of_cell? _ _ c4)).trans c4
    replace c5 := (hk7.cell (World.block_lt_of_cell? _ _ c5)).trans c5
    replace d0 := (hk7.cell (World.block_lt_of_cell? _ _ d0)).trans d0
    replace d1 := (hk7.cell (World.block_lt_of_cell? _ _ d1)).trans d1
    replace d2 := (hk7.cell (World.block_lt_of_cell? _ _ d2)).trans d2
    replace d3 := (hk7.cell (World.block_lt_of_cell? _ _ d3)).trans d3
    have HB7 : Below w.heap.size w W7 := HB6.trans (hk7.mono HB6.size)
    rw [← hW7]
    have HK7 := Lib.hid (HK6.out.trans (hk7.mono HK6.out.size))
    clear t1 t2 t3 t4 t5 R hi hk hW7 hk7 HK6
    by_cases hin : inG g i k
    · obtain ⟨m, em, hm, hm1, hm2, hdec⟩ := seed_fact HG.out HX.out.2.2.1 HX.out.2.1 HIK.out.1 HIK.out.2 hin
      have HOM := Lib.hid (HX.out.2.2.1 em hm2)
      obtain ⟨b0, b1, b2, b3⟩ := HX.out.2.2.2 m em hm1
      have hml : m < es.length := (List.getElem?_eq_some_iff.1 hm1).1
      have hml2 : (m : Int) < (es.length : Int) := by omega
      obtain ⟨q4, q5, q6, q7, q8⟩ := ix_bd HG.out hin
      have hx : ixOf g i k < cellsN g := by have := HCN.out; omega
      have hg2 : (knownE es g)[ixOf g i k]? = some (m : Int) := by rw [hm]; unfold getI; rw [List.getElem?_eq_getElem (by rw [HLEN.out]; exact hx)]; rfl
      have an := (HK7.out.cell (blt (HCA.out _ _ hg2))).trans (HCA.out _ _ hg2)
      rw [← q7] at an
      replace b0 := (HK7.out.cell (World.block_lt_of_cell? _ _ b0)).trans b0
      replace b1 := (HK7.out.cell (World.block_lt_of_cell? _ _ b1)).trans b1
      replace b2 := (HK7.out.cell (World.block_lt_of_cell? _ _ b2)).trans b2
      replace b3 := (HK7.out.cell (World.block_lt_of_cell? _ _ b3)).trans b3
      obtain ⟨i1, i2, i3, i4⟩ := hin
      have CX := Lib.hid (cen_bd HG.out.1 HG.out.2.2.1 ⟨i1, by have := HG.out.2.2.2.1.2; omega⟩)
      have CY := Lib.hid (cen_bd HG.out.2.1 HG.out.2.2.1 ⟨i2, by have := HG.out.2.2.2.2.1.2; omega⟩)
      have HD := Lib.hid hdec
      have u1 : IntKind.i64.wrap (k * g.w) = k * g.w := IntWalk.i64_in _ (by omega)
      have u2 : IntKind.i64.wrap (k * g.w + i) = k * g.w + i := IntWalk.i64_in _ (by omega)
      have u3 : 0 ≤ k * g.w + i := by omega
      have u4 : k * g.w + i < (cellsN g : Int) := by have := HCN.out; omega
      have gw := HG.out.2.2.2.1.2
      have gh := HG.out.2.2.2.2.1.2
      have GX := Lib.hid HG.out.1
      have GY := Lib.hid HG.out.2.1
      clear hm hm1 hm2 hdec hg2 q5 q6 q7 q8 hx HX
      go_wp2_with fail
      go_call centre_c g i k _ (GX.out.mono (by omega)) (GY.out.mono (by omega)) (by omega) (by omega) i1 (by omega) i2 (by omega) as r w8 ⟨rfl, hb8⟩
      replace c3 := (hb8.cell (World.block_lt_of_cell? _ _ c3)).trans c3
      replace an := (hb8.cell (World.block_lt_of_cell? _ _ an)).trans an
      replace b0 := (hb8.cell (World.block_lt_of_cell? _ _ b0)).trans b0
      replace b1 := (hb8.cell (World.block_lt_of_cell? _ _ b1)).trans b1
      replace b2 := (hb8.cell (World.block_lt_of_cell? _ _ b2)).trans b2
      replace b3 := (hb8.cell (World.block_lt_of_cell? _ _ b3)).trans b3
      replace d0 := (hb8.cell (World.block_lt_of_cell? _ _ d0)).trans d0
      replace d1 := (hb8.cell (World.block_lt_of_cell? _ _ d1)).trans d1
      replace d2 := (hb8.cell (World.block_lt_of_cell? _ _ d2)).trans d2
      replace d3 := (hb8.cell (World.block_lt_of_cell? _ _ d3)).trans d3
      have HB8 : Below w.heap.size w w8 := HB7.trans (hb8.mono HB7.size)
      go_upto_region 13 with fail
      refine wp_gen ?_
      intro W9 hW9
      have hk9 : Below w8.heap.size w8 W9 := by rw [← hW9]; exact (by repeat' (first | (with_reducible exact Below.refl _ _) | (with_reducible assumption) | (with_reducible refine below_drewN ?_ _) | (with_reducible refine Below.alloc ?_ ?_ _) | (with_reducible refine Below.drew ?_) | (with_reducible refine Below.setCell ?_ ?_ _) | (with_reducible refine below_var ?_ ?_ (by assumption)) | (with_reducible refine below_own' ?_ (by assumption) (by assumption) ?_ ?_) | go_size))
      have t0 : W9.cell? ⟨w8.heap.size, 0, none⟩ = some (.int .i64 (cen g.x g.p i)) := by rw [← hW9]; simp [go_sem]
      have t1 : W9.cell? ⟨w8.heap.size, 1, none⟩ = some (.int .i64 (cen g.y g.p k)) := by rw [← hW9]; simp [go_sem]
      replace c3 := (hk9.cell (World.block_lt_of_cell? _ _ c3)).trans c3
      replace an := (hk9.cell (World.block_lt_of_cell? _ _ an)).trans an
      replace b0 := (hk9.cell (World.block_lt_of_cell? _ _ b0)).trans b0
      replace b1 := (hk9.cell (World.block_lt_of_cell? _ _ b1)).trans b1
      replace b2 := (hk9.cell (World.block_lt_of_cell? _ _ b2)).trans b2
      replace b3 := (hk9.cell (World.block_lt_of_cell? _ _ b3)).trans b3
      replace d0 := (hk9.cell (World.block_lt_of_cell? _ _ d0)).trans d0
      replace d1 := (hk9.cell (World.block_lt_of_cell? _ _ d1)).trans d1
      replace d2 := (hk9.cell (World.block_lt_of_cell? _ _ d2)).trans d2
      replace d3 := (hk9.cell (World.block_lt_of_cell? _ _ d3)).trans d3
      have HB9 : Below w.heap.size w W9 := HB8.trans (hk9.mono HB8.size)
      clear hW9 hk9 hb8 c0 c1 c2 c4 c5
      go_upto_region 14 with fail
      have FM := Lib.hid (Edg.sq_fine HOM.out CX.out CY.out)
      have FE := Lib.hid (Edg.sq_fine HOE.out CX.out CY.out)
      have hD := HD.out
      have m0 : decide ((0 : Int) ≤ (m : Int)) = true := by simp
      have m1 : decide ((m : Int) < (es.length : Int)) = true := by simp; omega
      clear u1 u2 u3 u4 c3 an i1 i2 i3 i4 x1 x2 y1 y2 p1 p2 o1 o2 o3 o4 HIK ht h0 hpos2 htl hw0 hw1 hcb
      have HS : Hid (∀ w', Below (W9.heap.size) W9 w' → (Below (W9.heap.size) W9 w' ∧ w'.cell? ⟨b, m * 4, none⟩ = some ((.int .i64 (em.ax))) ∧ w'.cell? ⟨b, m * 4 + 1, none⟩ = some ((.int .i64 (em.ay))) ∧ w'.cell? ⟨b, m * 4 + 2, none⟩ = some ((.int .i64 (em.bx))) ∧ w'.cell? ⟨b, m * 4 + 3, none⟩ = some ((.int .i64 (em.bz))) ∧ w'.cell? ⟨w5.heap.size, 0, none⟩ = some ((.int .i64 (e.ax))) ∧ w'.cell? ⟨w5.heap.size, 1, none⟩ = some ((.int .i64 (e.ay))) ∧ w'.cell? ⟨w5.heap.size, 2, none⟩ = some ((.int .i64 (e.bx))) ∧ w'.cell? ⟨w5.heap.size, 3, none⟩ = some ((.int .i64 (e.bz))) ∧ w'.cell? ⟨w8.heap.size, 0, none⟩ = some ((.int .i64 (cen g.x g.p i))) ∧ w'.cell? ⟨w8.heap.size, 1, none⟩ = some ((.int .i64 (cen g.y g.p k))))) := fun w' h => ⟨h, (h.cell (p := ⟨b, m * 4, none⟩) (by first | exact World.block_lt_of_cell? W9 _ (show W9.cell? ⟨b, m * 4, none⟩ = some ((.int .i64 (em.ax))) by assumption) | go_size)).trans (by assumption), (h.cell (p := ⟨b, m * 4 + 1, none⟩) (by first | exact World.block_lt_of_cell? W9 _ (show W9.cell? ⟨b, m * 4 + 1, none⟩ = some ((.int .i64 (em.ay))) by assumption) | go_size)).trans (by assumption), (h.cell (p := ⟨b, m * 4 + 2, none⟩) (by first | exact World.block_lt_of_cell? W9 _ (show W9.cell? ⟨b, m * 4 + 2, none⟩ = some ((.int .i64 (em.bx))) by assumption) | go_size)).trans (by assumption), (h.cell (p := ⟨b, m * 4 + 3, none⟩) (by first | exact World.block_lt_of_cell? W9 _ (show W9.cell? ⟨b, m * 4 + 3, none⟩ = some ((.int .i64 (em.bz))) by assumption) | go_size)).trans (by assumption), (h.cell (p := ⟨w5.heap.size, 0, none⟩) (by first | exact World.block_lt_of_cell? W9 _ (show W9.cell? ⟨w5.heap.size, 0, none⟩ = some ((.int .i64 (e.ax))) by assumption) | go_size)).trans (by assumption), (h.cell (p := ⟨w5.heap.size, 1, none⟩) (by first | exact World.block_lt_of_cell? W9 _ (show W9.cell? ⟨w5.heap.size, 1, none⟩ = some ((.int .i64 (e.ay))) by assumption) | go_size)).trans (by assumption), (h.cell (p := ⟨w5.heap.size, 2, none⟩) (by first | exact World.block_lt_of_cell? W9 _ (show W9.cell? ⟨w5.heap.size, 2, none⟩ = some ((.int .i64 (e.bx))) by assumption) | go_size)).trans (by assumption), (h.cell (p := ⟨w5.heap.size, 3, none⟩) (by first | exact World.block_lt_of_cell? W9 _ (show W9.cell? ⟨w5.heap.size, 3, none⟩ = some ((.int .i64 (e.bz))) by assumption) | go_size)).trans (by assumption), (h.cell (p := ⟨w8.heap.size, 0, none⟩) (by first | exact World.block_lt_of_cell? W9 _ (show W9.cell? ⟨w8.heap.size, 0, none⟩ = some ((.int .i64 (cen g.x g.p i))) by assumption) | go_size)).trans (by assumption), (h.cell (p := ⟨w8.heap.size, 1, none⟩) (by first | exact World.block_lt_of_cell? W9 _ (show W9.cell? ⟨w8.heap.size, 1, none⟩ = some ((.int .i64 (cen g.y g.p k))) by assumption) | go_size)).trans (by assumption)⟩
      go_region_held3 (fun w' => Below (W9.heap.size) W9 w' ∧ w'.cell? ⟨b, m * 4, none⟩ = some ((.int .i64 (em.ax))) ∧ w'.cell? ⟨b, m * 4 + 1, none⟩ = some ((.int .i64 (em.ay))) ∧ w'.cell? ⟨b, m * 4 + 2, none⟩ = some ((.int .i64 (em.bx))) ∧ w'.cell? ⟨b, m * 4 + 3, none⟩ = some ((.int .i64 (em.bz))) ∧ w'.cell? ⟨w5.heap.size, 0, none⟩ = some ((.int .i64 (e.ax))) ∧ w'.cell? ⟨w5.heap.size, 1, none⟩ = some ((.int .i64 (e.ay))) ∧ w'.cell? ⟨w5.heap.size, 2, none⟩ = some ((.int .i64 (e.bx))) ∧ w'.cell? ⟨w5.heap.size, 3, none⟩ = some ((.int .i64 (e.bz))) ∧ w'.cell? ⟨w8.heap.size, 0, none⟩ = some ((.int .i64 (cen g.x g.p i))) ∧ w'.cell? ⟨w8.heap.size, 1, none⟩ = some ((.int .i64 (cen g.y g.p k)))) (exact HS.out _ (by repeat' (first | (with_reducible exact Below.refl _ _) | (with_reducible assumption) | (with_reducible refine below_drewN ?_ _) | (with_reducible refine Below.alloc ?_ ?_ _) | (with_reducible refine Below.drew ?_) | (with_reducible refine Below.setCell ?_ ?_ _) | (with_reducible refine below_var ?_ ?_ (by assumption)) | (with_reducible refine below_own' ?_ (by assumption) (by assumption) ?_ ?_) | go_size))) (first | (go_at_call 16; refine (square_c _ (cen g.x g.p i) (cen g.y g.p k) _ (by first | exact HOM.out | exact HOE.out) CX.out CY.out).mono ?_; rintro e w' ⟨rfl, hb⟩; obtain ⟨hc, hf, hs⟩ := bcell3 hb; have hz := hb.size; (try simp only [World.size_alloc, World.size_setCell, World.size_drew, World.heap_drewN] at hz); (try have hq0 : W9.heap.size < w'.heap.size := by omega); (try have hq1 : W9.heap.size + 1 < w'.heap.size := by omega)) | (go_at_call 15; refine (cmp_c _ _ _ _ _ FM.out.1 FM.out.num (by have := FM.out.2.2.1; omega) FM.out.den FE.out.1 FE.out.num (by have := FE.out.2.2.1; omega) FE.out.den).mono ?_; rintro e w' ⟨rfl, hb⟩; obtain ⟨hc, hf, hs⟩ := bcell3 hb; have hz := hb.size; (try simp only [World.size_alloc, World.size_setCell, World.size_drew, World.heap_drewN] at hz); (try have hq0 : W9.heap.size < w'.heap.size := by omega); (try have hq1 : W9.heap.size + 1 < w'.heap.size := by omega)))
      clear HS
      all_goals
        go_wp2_with fail
        go_ret
        exact ⟨rfl, by exact HB9.trans (Below.mono (by repeat' (first | (with_reducible exact Below.refl _ _) | (with_reducible assumption) | (with_reducible refine below_drewN ?_ _) | (with_reducible refine Below.alloc ?_ ?_ _) | (with_reducible refine Below.drew ?_) | (with_reducible refine Below.setCell ?_ ?_ _) | (with_reducible refine below_var ?_ ?_ (by assumption)) | (with_reducible refine below_own' ?_ (by assumption) (by assumption) ?_ ?_) | go_size)) HB9.size)⟩
    · have hc : i < 0 ∨ (0 ≤ i ∧ k < 0) ∨ (0 ≤ i ∧ 0 ≤ k ∧ g.w ≤ i) ∨ (0 ≤ i ∧ 0 ≤ k ∧ i < g.w ∧ g.h ≤ k) := by unfold inG at hin; omega
      clear hin
      rcases hc with h1 | ⟨h1, h2⟩ | ⟨h1, h2, h3⟩ | ⟨h1, h2, h3, h4⟩
      all_goals
        go_wp2_with fail
        go_ret
        exact ⟨rfl, HB7⟩

end Go.Proofs.Ytadohkidfkbncaa
