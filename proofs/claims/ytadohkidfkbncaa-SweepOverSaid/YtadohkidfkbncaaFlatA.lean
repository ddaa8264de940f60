/-
  The walks of flat: points.
-/
import Derived.Test.YtadohkidfkbncaaPathA
namespace Go.Proofs.Ytadohkidfkbncaa
open Go.RowKit
set_option linter.unusedSimpArgs false

theorem small_c (x y : Int) (w : World) (hx : Bd 510 x) (hy : Bd 510 y) :
    Calls Try.prog 71 #[.agg #[(.int .i64 (x)), (.int .i64 (y))]] w fun r w' => r = .returned (.agg #[(.int .i64 (16 * x)), (.int .i64 (16 * y))]) ∧ Below w.heap.size w w' := by
  obtain ⟨h1, h2⟩ := hx
  obtain ⟨h3, h4⟩ := hy
  go_enter Try.func71, Try.ntmps71
  go_wp2
  go_returns
  exact ⟨rfl, (by repeat' (first | (with_reducible exact Below.refl _ _) | (with_reducible assumption) | (with_reducible refine below_drewN ?_ _) | (with_reducible refine Below.alloc ?_ ?_ _) | (with_reducible refine Below.drew ?_) | (with_reducible refine Below.setCell ?_ ?_ _) | (with_reducible refine below_var ?_ ?_ (by assumption)) | (with_reducible refine below_own' ?_ (by assumption) (by assumption) ?_ ?_) | go_size))⟩

theorem mul16 {a x : Int} (a0 : 0 ≤ a) (a1 : a ≤ 16) (h : Bd 510 x) : -8160 ≤ a * x ∧ a * x ≤ 8160 := by
  obtain ⟨h1, h2⟩ := h
  have e1 : a * x ≤ a * 510 := Int.mul_le_mul_of_nonneg_left h2 a0
  have e2 : a * (-510) ≤ a * x := Int.mul_le_mul_of_nonneg_left h1 a0
  omega

theorem on1_c (a b c x y z : Int) (A B C : Nat) (w : World) (hA : w.cell? ⟨A, 0, none⟩ = some (.int .i64 (a))) (hB : w.cell? ⟨B, 0, none⟩ = some (.int .i64 (b))) (hC : w.cell? ⟨C, 0, none⟩ = some (.int .i64 (c)))
    (a0 : 0 ≤ a) (a1 : a ≤ 16) (b0 : 0 ≤ b) (b1 : b ≤ 16) (c0 : 0 ≤ c) (c1 : c ≤ 16) (hx : Bd 510 x) (hy : Bd 510 y) (hz : Bd 510 z) :
    Calls Try.prog 79 #[(.int .i64 (x)), (.int .i64 (y)), (.int .i64 (z)), .pointer (some ⟨A, 0, none⟩), .pointer (some ⟨B, 0, none⟩), .pointer (some ⟨C, 0, none⟩)] w fun r w' => r = .returned (.int .i64 (a * x + b * y + c * z)) ∧ w = w' := by
  obtain ⟨p1, p2⟩ := mul16 a0 a1 hx
  obtain ⟨p3, p4⟩ := mul16 b0 b1 hy
  obtain ⟨p5, p6⟩ := mul16 c0 c1 hz
  have HT := Lib.hid (Int.mul_tdiv_cancel (a * x + b * y + c * z) (show (16 : Int) ≠ 0 by decide))
  go_enter Try.func79, Try.ntmps79
  go_wp2_with fail
  go_ret
  exact ⟨rfl, rfl⟩

theorem k16 {k : Int} (h1 : 0 ≤ k) (h2 : k ≤ 4) : 0 ≤ (4 - k) * (4 - k) ∧ (4 - k) * (4 - k) ≤ 16 ∧ 0 ≤ 2 * k * (4 - k) ∧ 2 * k * (4 - k) ≤ 16 ∧ 0 ≤ k * k ∧ k * k ≤ 16 := by
  have h : k = 0 ∨ k = 1 ∨ k = 2 ∨ k = 3 ∨ k = 4 := by omega
  rcases h with rfl | rfl | rfl | rfl | rfl <;> decide

/-- A place of a curve, in small units. -/
def onX (k x y z : Int) : Int := (4 - k) * (4 - k) * x + 2 * k * (4 - k) * y + k * k * z
def Sg.val (g : Sg) : Value := .agg #[(.int .i64 (g.ax)), (.int .i64 (g.ay)), (.int .i64 (g.bx)), (.int .i64 (g.bz)), (.int .i64 (g.cx)), (.int .i64 (g.cy)), .bool g.curve]

set_option maxHeartbeats 1600000 in
theorem onC_c (g : Sg) (k : Int) (w : World) (hg : g.ok) (h1 : 0 ≤ k) (h2 : k ≤ 4) :
    Calls Try.prog 72 #[g.val, (.int .i64 (k))] w fun r w' => r = .returned (.agg #[(.int .i64 (onX k g.ax g.bx g.cx)), (.int .i64 (onX k g.ay g.bz g.cy))]) ∧ Below w.heap.size w w' := by
  have HG := Lib.hid hg
  clear hg
  unfold Sg.val onX
  obtain ⟨a0, a1, b0, b1, c0, c1⟩ := k16 h1 h2
  have hmf : ∀ (fn : Fn) (first cap : Array Value) (w : World), (Instr.makeFunc fn first cap).run Try.prog w = .ok (.func fn first cap) w := fun _ _ _ _ => rfl
  go_enter Try.func72, Try.ntmps72
  go_upto_region 3 with fail
  refine wp_gen ?_
  intro W hW
  obtain ⟨ka, eka⟩ : ∃ z, z = (4 - k) * (4 - k) := ⟨_, rfl⟩
  obtain ⟨kb, ekb⟩ : ∃ z, z = 2 * k * (4 - k) := ⟨_, rfl⟩
  obtain ⟨kc, ekc⟩ : ∃ z, z = k * k := ⟨_, rfl⟩
  have g0 : W.cell? ⟨w.heap.size, 0, none⟩ = some ((.int .i64 (g.ax))) := by rw [← hW]; simp [go_sem]
  have g1 : W.cell? ⟨w.heap.size, 1, none⟩ = some ((.int .i64 (g.ay))) := by rw [← hW]; simp [go_sem]
  have g2 : W.cell? ⟨w.heap.size, 2, none⟩ = some ((.int .i64 (g.bx))) := by rw [← hW]; simp [go_sem]
  have g3 : W.cell? ⟨w.heap.size, 3, none⟩ = some ((.int .i64 (g.bz))) := by rw [← hW]; simp [go_sem]
  have g4 : W.cell? ⟨w.heap.size, 4, none⟩ = some ((.int .i64 (g.cx))) := by rw [← hW]; simp [go_sem]
  have g5 : W.cell? ⟨w.heap.size, 5, none⟩ = some ((.int .i64 (g.cy))) := by rw [← hW]; simp [go_sem]
  have g6 : W.cell? ⟨w.heap.size, 6, none⟩ = some (.bool g.curve) := by rw [← hW]; simp [go_sem]
  have r0 : W.cell? ⟨w.heap.size + 1, 0, none⟩ = some ((.int .i64 (0))) := by rw [← hW]; simp [go_sem]
  have r1 : W.cell? ⟨w.heap.size + 1, 1, none⟩ = some ((.int .i64 (0))) := by rw [← hW]; simp [go_sem]
  have f0 : W.frozen? ⟨w.heap.size + 1, 0, none⟩ = false := by rw [← hW]; simp [go_sem]
  have f1 : W.frozen? ⟨w.heap.size + 1, 1, none⟩ = false := by rw [← hW]; simp [go_sem]
  have e5 : W.cell? ⟨w.heap.size + 1 + 1, 0, none⟩ = some (.int .i64 (ka)) := by rw [← hW, eka]; simp [go_sem]
  have e6 : W.cell? ⟨w.heap.size + 1 + 1 + 1, 0, none⟩ = some (.int .i64 (kb)) := by rw [← hW, ekb]; simp [go_sem]
  have e7 : W.cell? ⟨w.heap.size + 1 + 1 + 1 + 1, 0, none⟩ = some (.int .i64 (kc)) := by rw [← hW, ekc]; simp [go_sem]
  have HB : Below w.heap.size w W := by rw [← hW]; exact (by repeat' (first | (with_reducible exact Below.refl _ _) | (with_reducible assumption) | (with_reducible refine below_drewN ?_ _) | (with_reducible refine Below.alloc ?_ ?_ _) | (with_reducible refine Below.drew ?_) | (with_reducible refine Below.setCell ?_ ?_ _) | (with_reducible refine below_var ?_ ?_ (by assumption)) | (with_reducible refine below_own' ?_ (by assumption) (by assumption) ?_ ?_) | go_size))
  rw [← eka] at a0 a1
  rw [← ekb] at b0 b1
  rw [← ekc] at c0 c1
  rw [← eka, ← ekb, ← ekc]
  have n0 := blt g0
  have n1 := blt r0
  have EK := Lib.hid (show ka = (4 - k) * (4 - k) ∧ kb = 2 * k * (4 - k) ∧ kc = k * k from ⟨eka, ekb, ekc⟩)
  clear hW eka ekb ekc
  go_region_held3 (fun w' => w'.cell? ⟨w.heap.size, 0, none⟩ = some (.int .i64 (g.ax)) ∧ w'.cell? ⟨w.heap.size, 1, none⟩ = some (.int .i64 (g.ay)) ∧ w'.cell? ⟨w.heap.size, 2, none⟩ = some (.int .i64 (g.bx)) ∧ w'.cell? ⟨w.heap.size, 3, none⟩ = some (.int .i64 (g.bz)) ∧ w'.cell? ⟨w.heap.size, 4, none⟩ = some (.int .i64 (g.cx)) ∧ w'.cell? ⟨w.heap.size, 5, none⟩ = some (.int .i64 (g.cy)) ∧ w'.cell? ⟨w.heap.size + 1 + 1, 0, none⟩ = some (.int .i64 (ka)) ∧ w'.cell? ⟨w.heap.size + 1 + 1 + 1, 0, none⟩ = some (.int .i64 (kb)) ∧ w'.cell? ⟨w.heap.size + 1 + 1 + 1 + 1, 0, none⟩ = some (.int .i64 (kc))) (go_keep)
    (first | (go_at_call 79; refine (on1_c ka kb kc _ _ _ _ _ _ _ ?_ ?_ ?_ a0 a1 b0 b1 c0 c1 ?_ ?_ ?_).mono ?_; (first | exact e5 | (simp [*]; done)); (first | exact e6 | (simp [*]; done)); (first | exact e7 | (simp [*]; done)); (first | exact HG.out.1 | exact HG.out.2.1); (first | exact HG.out.2.2.1 | exact HG.out.2.2.2.1); (first | exact HG.out.2.2.2.2.1 | exact HG.out.2.2.2.2.2); rintro e w' ⟨rfl, rfl⟩))
  all_goals
    go_wp2_with fail
    refine bodyPost_ret (by simp [results, Try.results72, go_sem, r0, r1]; rfl) rfl ?_
    exact ⟨by rw [← EK.out.1, ← EK.out.2.1, ← EK.out.2.2], (by repeat' (first | (with_reducible exact Below.refl _ _) | (with_reducible assumption) | (with_reducible refine below_drewN ?_ _) | (with_reducible refine Below.alloc ?_ ?_ _) | (with_reducible refine Below.drew ?_) | (with_reducible refine Below.setCell ?_ ?_ _) | (with_reducible refine below_var ?_ ?_ (by assumption)) | (with_reducible refine below_own' ?_ (by assumption) (by assumption) ?_ ?_) | go_size))⟩

end Go.Proofs.Ytadohkidfkbncaa
