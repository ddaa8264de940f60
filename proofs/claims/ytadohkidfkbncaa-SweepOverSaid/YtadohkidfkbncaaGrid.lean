/-
  The walks of grid: right grids, middles, codes.
-/
import Derived.Test.YtadohkidfkbncaaBase
namespace Go.Proofs.Ytadohkidfkbncaa
open Go.RowKit
set_option linter.unusedSimpArgs false

theorem centre1_c (f n p : Int) (g : Nat) (w : World) (hp : w.cell? ⟨g, 2, none⟩ = some ((.int .i64 (p)))) (f0 : Bd 65536 f) (n0 : 0 ≤ n) (n1 : n ≤ 65536) (p0 : 0 ≤ p) (p1 : p ≤ 65536) :
    Calls Try.prog 41 #[(.int .i64 (f)), (.int .i64 (n)), .pointer (some ⟨g, 0, none⟩)] w fun e w' => e = .returned (.int .i64 (cen f p n)) ∧ w = w' := by
  obtain ⟨f1, f2⟩ := f0
  obtain ⟨q0, q1⟩ := mul_bd n0 n1 p0 p1
  go_enter Try.func41, Try.ntmps41
  go_wp2
  go_ret
  exact ⟨rfl, rfl⟩

set_option maxHeartbeats 800000 in
theorem centre_c (g : Grd) (i k : Int) (w : World) (hx : Bd 65536 g.x) (hy : Bd 65536 g.y) (p0 : 0 ≤ g.p) (p1 : g.p ≤ 65536) (i0 : 0 ≤ i) (i1 : i ≤ 65536) (k0 : 0 ≤ k) (k1 : k ≤ 65536) :
    Calls Try.prog 14 #[.agg #[(.int .i64 (g.x)), (.int .i64 (g.y)), (.int .i64 (g.p)), (.int .i64 (g.w)), (.int .i64 (g.h)), (.int .i64 (g.s))], (.int .i64 (i)), (.int .i64 (k))] w fun e w' => e = .returned (.agg #[(.int .i64 (cen g.x g.p i)), (.int .i64 (cen g.y g.p k))]) ∧ Below w.heap.size w w' := by
  have HX := Lib.hid hx
  have HY := Lib.hid hy
  clear hx hy
  go_enter Try.func14, Try.ntmps14
  go_wp2
  go_region_held3 (fun w' => w'.cell? ⟨w.heap.size, 0, none⟩ = some ((.int .i64 (g.x))) ∧ w'.cell? ⟨w.heap.size, 1, none⟩ = some ((.int .i64 (g.y))) ∧ w'.cell? ⟨w.heap.size, 2, none⟩ = some ((.int .i64 (g.p)))) (go_keep)
    (first | (go_at_call 41; refine (centre1_c _ _ g.p _ _ ?_ (by first | exact HX.out | exact HY.out) (by omega) (by omega) p0 p1).mono ?_; (simp [*]); rintro e w' ⟨rfl, rfl⟩))
  go_wp2
  go_returns
  exact ⟨rfl, (by repeat' (first | (with_reducible exact Below.refl _ _) | (with_reducible assumption) | (with_reducible refine below_drewN ?_ _) | (with_reducible refine Below.alloc ?_ ?_ _) | (with_reducible refine Below.drew ?_) | (with_reducible refine Below.setCell ?_ ?_ _) | (with_reducible refine below_var ?_ ?_ (by assumption)) | (with_reducible refine below_own' ?_ (by assumption) (by assumption) ?_ ?_) | go_size))⟩

theorem spec_c (x y p u v s : Int) (w : World) (x0 : 0 ≤ x) (x1 : x ≤ 255) (y0 : 0 ≤ y) (y1 : y ≤ 255) (p0 : 0 ≤ p) (p1 : p ≤ 255) (u0 : 0 ≤ u) (u1 : u ≤ 255) (v0 : 0 ≤ v) (v1 : v ≤ 255) (s0 : 0 ≤ s) (s1 : s ≤ 255) :
    Calls Try.prog 12 #[.agg #[.int .u8 x, .int .u8 y, .int .u8 p, .int .u8 u, .int .u8 v, .int .u8 s]] w fun e w' => e = .returned (.agg #[(.int .i64 (x - 128)), (.int .i64 (y - 128)), (.int .i64 (1 + p % 16)), (.int .i64 (1 + u % 10)), (.int .i64 (1 + v % 10)), (.int .i64 (1 + s % 64))]) ∧ Below w.heap.size w w' := by
  go_enter Try.func12, Try.ntmps12
  go_wp2
  go_returns
  exact ⟨rfl, (by repeat' (first | (with_reducible exact Below.refl _ _) | (with_reducible assumption) | (with_reducible refine below_drewN ?_ _) | (with_reducible refine Below.alloc ?_ ?_ _) | (with_reducible refine Below.drew ?_) | (with_reducible refine Below.setCell ?_ ?_ _) | (with_reducible refine below_var ?_ ?_ (by assumption)) | (with_reducible refine below_own' ?_ (by assumption) (by assumption) ?_ ?_) | go_size))⟩

set_option maxHeartbeats 800000 in
theorem check_c (g : Grd) (w : World) (hg : g.ok) :
    Calls Try.prog 47 #[.agg #[(.int .i64 (g.x)), (.int .i64 (g.y)), (.int .i64 (g.p)), (.int .i64 (g.w)), (.int .i64 (g.h)), (.int .i64 (g.s))]] w fun e w' => e = .returned (.int .i64 (0)) ∧ Below w.heap.size w w' := by
  obtain ⟨⟨a1, a2⟩, ⟨b1, b2⟩, ⟨c1, c2⟩, ⟨d1, d2⟩, ⟨e1, e2⟩, f1, f2⟩ := hg
  go_enter Try.func47, Try.ntmps47
  go_wp2
  go_returns
  exact ⟨rfl, (by repeat' (first | (with_reducible exact Below.refl _ _) | (with_reducible assumption) | (with_reducible refine below_drewN ?_ _) | (with_reducible refine Below.alloc ?_ ?_ _) | (with_reducible refine Below.drew ?_) | (with_reducible refine Below.setCell ?_ ?_ _) | (with_reducible refine below_var ?_ ?_ (by assumption)) | (with_reducible refine below_own' ?_ (by assumption) (by assumption) ?_ ?_) | go_size))⟩

theorem code_c (g : Grd) (sg e : Int) (w : World) (s0 : 1 ≤ g.s) (s1 : g.s ≤ 64) (g0 : -1 ≤ sg) (g1 : sg ≤ 1) (e0 : 0 ≤ e) (e1 : e ≤ 4611686018427387904) :
    Calls Try.prog 31 #[.agg #[(.int .i64 (g.x)), (.int .i64 (g.y)), (.int .i64 (g.p)), (.int .i64 (g.w)), (.int .i64 (g.h)), (.int .i64 (g.s))], (.int .i64 (sg)), (.int .i64 (e))] w fun r w' => r = .returned (.int .u8 (code g.s sg e)) ∧ Below w.heap.size w w' := by
  have hb := codeN_bd s0 e0
  have hsg : sg = -1 ∨ sg = 0 ∨ sg = 1 := by omega
  have hlin : Hid (-127 ≤ sg * codeN g.s e ∧ sg * codeN g.s e ≤ 127) := by
    have hb' := hb
    rcases hsg with rfl | rfl | rfl
    · show _ ∧ _
      omega
    · show _ ∧ _
      omega
    · show _ ∧ _
      omega
  clear hsg
  by_cases h : e < 256 * g.s
  · have E := Lib.hid (show codeN g.s e = e * 127 / (256 * g.s) from if_pos h)
    have l1 : -127 ≤ sg * (e * 127 / (256 * g.s)) := by rw [← E.out]; exact hlin.out.1
    have l2 : sg * (e * 127 / (256 * g.s)) ≤ 127 := by rw [← E.out]; exact hlin.out.2
    clear hb
    go_enter Try.func31, Try.ntmps31
    go_wp2
    go_returns
    unfold code
    rw [E.out]
    exact ⟨rfl, (by repeat' (first | (with_reducible exact Below.refl _ _) | (with_reducible assumption) | (with_reducible refine below_drewN ?_ _) | (with_reducible refine Below.alloc ?_ ?_ _) | (with_reducible refine Below.drew ?_) | (with_reducible refine Below.setCell ?_ ?_ _) | (with_reducible refine below_var ?_ ?_ (by assumption)) | (with_reducible refine below_own' ?_ (by assumption) (by assumption) ?_ ?_) | go_size))⟩
  · have E := Lib.hid (show codeN g.s e = 127 from if_neg h)
    clear hb
    go_enter Try.func31, Try.ntmps31
    go_wp2
    go_returns
    unfold code
    rw [E.out]
    exact ⟨rfl, (by repeat' (first | (with_reducible exact Below.refl _ _) | (with_reducible assumption) | (with_reducible refine below_drewN ?_ _) | (with_reducible refine Below.alloc ?_ ?_ _) | (with_reducible refine Below.drew ?_) | (with_reducible refine Below.setCell ?_ ?_ _) | (with_reducible refine below_var ?_ ?_ (by assumption)) | (with_reducible refine below_own' ?_ (by assumption) (by assumption) ?_ ?_) | go_size))⟩

end Go.Proofs.Ytadohkidfkbncaa
