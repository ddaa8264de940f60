/-
  The walk of sweep.Known: the passes.
-/
import Derived.Test.YtadohkidfkbncaaSwpB
import Derived.Laws.MakeOwn
import Derived.Deep.AppendLies
import Derived.Laws.OwnMore
namespace Go.Proofs.Ytadohkidfkbncaa
open Go.RowKit
set_option linter.unusedSimpArgs false
attribute [local go_sem ↓] Go.wp_at_zero Go.wp_at_succ

/-- An edge's three places. -/
def ptX (e : Edg) : Nat → Int
  | 0 => e.ax
  | 1 => (e.ax + e.bx).tdiv 2
  | _ => e.bx
def ptY (e : Edg) : Nat → Int
  | 0 => e.ay
  | 1 => (e.ay + e.bz).tdiv 2
  | _ => e.bz
theorem pt_bd {e : Edg} (h : e.ok) (j : Nat) : Bd 8192 (ptX e j) ∧ Bd 8192 (ptY e j) := by
  obtain ⟨⟨a1, a2⟩, ⟨b1, b2⟩, ⟨c1, c2⟩, d1, d2⟩ := h
  have key : ∀ a b : Int, -8192 ≤ a → a ≤ 8192 → -8192 ≤ b → b ≤ 8192 → Bd 8192 ((a + b).tdiv 2) := by
    intro a b _ _ _ _
    have h1 := Int.tmod_add_mul_tdiv (a + b) 2
    have h2 := Int.tmod_lt_of_pos (a + b) (show (0 : Int) < 2 by omega)
    have h3 := Int.lt_tmod_of_pos (a + b) (show (0 : Int) < 2 by omega)
    unfold Bd
    omega
  unfold ptX ptY
  match j with
  | 0 => exact ⟨⟨a1, a2⟩, b1, b2⟩
  | 1 => exact ⟨key _ _ a1 a2 c1 c2, key _ _ b1 b2 d1 d2⟩
  | _ + 2 => exact ⟨⟨c1, c2⟩, d1, d2⟩
/-- One edge's three places are told. -/
def seedE (es : List Edg) (g : Grd) (l : List Int) (n : Nat) (e : Edg) : Nat → List Int
  | 0 => l
  | j + 1 => offerE es g (seedE es g l n e j) (texI g.x g.p g.w (ptX e j)) (texI g.y g.p g.h (ptY e j)) n

def seedTo (es : List Edg) (g : Grd) (l : List Int) : Nat → List Int
  | 0 => l
  | n + 1 => match es[n]? with
    | some e => seedE es g (seedTo es g l n) n e 3
    | none => seedTo es g l n

def dirF : Nat → Int × Int
  | 0 => (-1, 0)
  | 1 => (0, -1)
  | 2 => (-1, -1)
  | _ => (1, -1)
def dirB : Nat → Int × Int
  | 0 => (1, 0)
  | 1 => (0, 1)
  | 2 => (1, 1)
  | _ => (-1, 1)

/-- A texel asks its neighbours. -/
def askE (es : List Edg) (g : Grd) (dir : Nat → Int × Int) (i k : Int) (l : List Int) : Nat → List Int
  | 0 => l
  | n + 1 => offerE es g (askE es g dir i k l n) i k (knowsE g (askE es g dir i k l n) (i + (dir n).1) (k + (dir n).2))

def fwdRow (es : List Edg) (g : Grd) (k : Int) (l : List Int) : Nat → List Int
  | 0 => l
  | i + 1 => askE es g dirF i k (fwdRow es g k l i) 4
def fwdTo (es : List Edg) (g : Grd) (l : List Int) : Nat → List Int
  | 0 => l
  | k + 1 => fwdRow es g k (fwdTo es g l k) g.w.toNat
def bwdRow (es : List Edg) (g : Grd) (k : Int) (l : List Int) : Nat → List Int
  | 0 => l
  | i + 1 => askE es g dirB (g.w - 1 - i) k (bwdRow es g k l i) 4
def bwdTo (es : List Edg) (g : Grd) (l : List Int) : Nat → List Int
  | 0 => l
  | k + 1 => bwdRow es g (g.h - 1 - k) (bwdTo es g l k) g.w.toNat

def cellsN (g : Grd) : Nat := (g.w * g.h).toNat
def zeroE (g : Grd) : List Int := List.replicate (cellsN g) (-1)
def knownE (es : List Edg) (g : Grd) : List Int := bwdTo es g (fwdTo es g (seedTo es g (zeroE g) es.length) g.h.toNat) g.h.toNat

/-- All that texels know are edges. -/
def Kn (es : List Edg) (l : List Int) : Prop := ∀ x ∈ l, x < es.length

theorem getI_lt {es : List Edg} {l : List Int} (h : Kn es l) (n : Nat) : getI l n < es.length := by
  unfold getI
  cases hn : l[n]? with
  | none => simp; omega
  | some x => exact h x (List.mem_of_getElem? hn)
theorem Kn.offer {es : List Edg} {g : Grd} {l : List Int} (h : Kn es l) {i k e : Int} (he : e < es.length) : Kn es (offerE es g l i k e) := by
  unfold offerE
  split
  · exact h
  · split
    · intro x hx
      rcases List.mem_or_eq_of_mem_set hx with h1 | h1
      · exact h x h1
      · rw [h1]; exact he
    · exact h
theorem knowsE_lt {es : List Edg} {g : Grd} {l : List Int} (h : Kn es l) (i k : Int) : knowsE g l i k < es.length := by
  unfold knowsE
  split
  · exact getI_lt h _
  · omega
theorem Kn.ask {es : List Edg} {g : Grd} {l : List Int} (h : Kn es l) (dir : Nat → Int × Int) (i k : Int) : ∀ n, Kn es (askE es g dir i k l n)
  | 0 => h
  | n + 1 => (Kn.ask h dir i k n).offer (knowsE_lt (Kn.ask h dir i k n) _ _)
theorem Kn.seedE {es : List Edg} {g : Grd} {l : List Int} (h : Kn es l) {n : Nat} (hn : n < es.length) (e : Edg) : ∀ m, Kn es (seedE es g l n e m)
  | 0 => h
  | m + 1 => (Kn.seedE h hn e m).offer (by omega)
theorem Kn.seedTo {es : List Edg} {g : Grd} {l : List Int} (h : Kn es l) : ∀ n, Kn es (seedTo es g l n)
  | 0 => h
  | n + 1 => by
    rw [Proofs.Ytadohkidfkbncaa.seedTo]
    split
    · rename_i e he
      exact Kn.seedE (Kn.seedTo h n) (List.getElem?_eq_some_iff.1 he).1 e 3
    · exact Kn.seedTo h n
theorem Kn.fwdRow {es : List Edg} {g : Grd} {l : List Int} (h : Kn es l) (k : Int) : ∀ n, Kn es (fwdRow es g k l n)
  | 0 => h
  | n + 1 => (Kn.fwdRow h k n).ask _ _ _ _
theorem Kn.fwdTo {es : List Edg} {g : Grd} {l : List Int} (h : Kn es l) : ∀ n, Kn es (fwdTo es g l n)
  | 0 => h
  | n + 1 => (Kn.fwdTo h n).fwdRow _ _
theorem Kn.bwdRow {es : List Edg} {g : Grd} {l : List Int} (h : Kn es l) (k : Int) : ∀ n, Kn es (bwdRow es g k l n)
  | 0 => h
  | n + 1 => (Kn.bwdRow h k n).ask _ _ _ _
theorem Kn.bwdTo {es : List Edg} {g : Grd} {l : List Int} (h : Kn es l) : ∀ n, Kn es (bwdTo es g l n)
  | 0 => h
  | n + 1 => (Kn.bwdTo h n).bwdRow _ _
theorem Kn.zero (es : List Edg) (g : Grd) : Kn es (zeroE g) := by
  intro x hx
  have := (List.mem_replicate.1 hx).2
  omega

theorem offerE_len (es : List Edg) (g : Grd) (l : List Int) (i k e : Int) : (offerE es g l i k e).length = l.length := by
  unfold offerE
  split
  · rfl
  · split
    · simp
    · rfl
theorem askE_len (es : List Edg) (g : Grd) (dir : Nat → Int × Int) (i k : Int) (l : List Int) : ∀ n, (askE es g dir i k l n).length = l.length
  | 0 => rfl
  | n + 1 => (offerE_len _ _ _ _ _ _).trans (askE_len es g dir i k l n)
theorem seedE_len (es : List Edg) (g : Grd) (l : List Int) (n : Nat) (e : Edg) : ∀ j, (seedE es g l n e j).length = l.length
  | 0 => rfl
  | j + 1 => (offerE_len _ _ _ _ _ _).trans (seedE_len es g l n e j)
theorem seedTo_len (es : List Edg) (g : Grd) (l : List Int) : ∀ n, (seedTo es g l n).length = l.length
  | 0 => rfl
  | n + 1 => by
    rw [seedTo]
    split
    · exact (seedE_len _ _ _ _ _ _).trans (seedTo_len es g l n)
    · exact seedTo_len es g l n
theorem fwdRow_len (es : List Edg) (g : Grd) (k : Int) (l : List Int) : ∀ n, (fwdRow es g k l n).length = l.length
  | 0 => rfl
  | n + 1 => (askE_len _ _ _ _ _ _ _).trans (fwdRow_len es g k l n)
theorem fwdTo_len (es : List Edg) (g : Grd) (l : List Int) : ∀ n, (fwdTo es g l n).length = l.length
  | 0 => rfl
  | n + 1 => (fwdRow_len _ _ _ _ _).trans (fwdTo_len es g l n)
theorem bwdRow_len (es : List Edg) (g : Grd) (k : Int) (l : List Int) : ∀ n, (bwdRow es g k l n).length = l.length
  | 0 => rfl
  | n + 1 => (askE_len _ _ _ _ _ _ _).trans (bwdRow_len es g k l n)
theorem bwdTo_len (es : List Edg) (g : Grd) (l : List Int) : ∀ n, (bwdTo es g l n).length = l.length
  | 0 => rfl
  | n + 1 => (bwdRow_len _ _ _ _ _).trans (bwdTo_len es g l n)
theorem knownE_len (es : List Edg) (g : Grd) : (knownE es g).length = cellsN g := by
  unfold knownE
  rw [bwdTo_len, fwdTo_len, seedTo_len]
  simp [zeroE]
theorem knownE_kn (es : List Edg) (g : Grd) : Kn es (knownE es g) := (((Kn.zero es g).seedTo _).fwdTo _).bwdTo _

def zerosC (n : Nat) : Array Value := madeCells (Value.int .i64 0).cells n
theorem info_int : (Try.prog.info? 3).map (fun i => (i.zero, i.size, i.bytes)) = some (some (.int .i64 (0)), 1, 8) := by kernel_rfl
theorem make_ints (n : Int) (h0 : 0 ≤ n) (h1 : n ≤ 1000000) (w : World) : (Instr.makeSlice 31 (.int .i64 (n)) (.int .i64 (n))).run Try.prog w = .ok (.slice (some ⟨w.heap.size, 0, none⟩) n.toNat n.toNat) (w.alloc (.cells (zerosC n.toNat) 3)) := by
  obtain ⟨i0, hi, hz0, hz1, hz2⟩ := info_parts info_int
  have := run_make (P := Try.prog) w 31 3 i0 _ Try.underlying31 hi hz0 .i64 .i64 n n h0 (Int.le_refl _) (by rw [hz2]; omega) (by omega)
  rw [this, hz1, Nat.mul_one]; rfl
theorem build_table (a b c d e f : Value) (x y : Option Addr) (n m n' m' : Nat) (w : World) : (Instr.build 82 #[(0, .slice x n m), (1, .agg #[a, b, c, d, e, f]), (2, .slice y n' m')]).run Try.prog w = .ok (.agg #[.slice x n m, a, b, c, d, e, f, .slice y n' m']) w := by kernel_rfl

theorem grown_trans {w w1 w2 : World} {row : Option Nat} (h : w.grownBy w1 row) (k : w1.grownBy w2 row) : w.grownBy w2 row :=
  ⟨k.os.trans h.os, k.tape.trans h.tape, k.output.trans h.output, Nat.le_trans h.size k.size, fun b hb hne => (k.block b (Nat.lt_of_lt_of_le hb h.size) hne).trans (h.block b hb hne)⟩
/-- A slice of numbers, told. -/
def IntsAt (K : Nat) (w : World) (u : Value) (l : List Int) : Prop :=
  ∃ A cap, u = .slice (some ⟨A, 0, none⟩) l.length cap ∧ K ≤ A ∧ ∀ (n : Nat) (x : Int), l[n]? = some x → w.cell? ⟨A, n, none⟩ = some (.int .i64 (x))
theorem IntsAt.carry {K : Nat} {w w1 : World} {u : Value} {l : List Int} (h : IntsAt K w u l) (hb : Below w.heap.size w w1) : IntsAt K w1 u l := by
  obtain ⟨A, cap, h1, h0, h2⟩ := h
  exact ⟨A, cap, h1, h0, fun n x hx => (hb.cell (p := ⟨A, n, none⟩) (blt (h2 n x hx))).trans (h2 n x hx)⟩
theorem dirF_bd (n : Nat) : (-1 ≤ (dirF n).1 ∧ (dirF n).1 ≤ 1) ∧ -1 ≤ (dirF n).2 ∧ (dirF n).2 ≤ 1 := by unfold dirF; split <;> decide
theorem dirB_bd (n : Nat) : (-1 ≤ (dirB n).1 ∧ (dirB n).1 ≤ 1) ∧ -1 ≤ (dirB n).2 ∧ (dirB n).2 ≤ 1 := by unfold dirB; split <;> decide
theorem build_dir (a b : Int) (w : World) : (Instr.build 87 #[(0, (.int .i64 (a))), (1, (.int .i64 (b)))]).run Try.prog w = .ok (.agg #[(.int .i64 (a)), (.int .i64 (b))]) w := by kernel_rfl
theorem slice_dirs (a b c d e f g h : Value) (w : World) : (Instr.buildSlice 88 4 #[(0, .agg #[a, b]), (1, .agg #[c, d]), (2, .agg #[e, f]), (3, .agg #[g, h])]).run Try.prog w = .ok (.slice (some ⟨w.heap.size, 0, none⟩) 4 4) (w.alloc (.cells #[a, b, c, d, e, f, g, h] 87)) := by kernel_rfl
theorem slice_pts (a b c d e f : Value) (w : World) : (Instr.buildSlice 83 3 #[(0, .agg #[a, b]), (1, .agg #[c, d]), (2, .agg #[e, f])]).run Try.prog w = .ok (.slice (some ⟨w.heap.size, 0, none⟩) 3 3) (w.alloc (.cells #[a, b, c, d, e, f] 34)) := by kernel_rfl

set_option maxRecDepth 100000 in
set_option maxHeartbeats 1600000 in
theorem known_c {w : World} {v : Value} {es : List Edg} {g : Grd} (h : EdgesAt w v es) (hg : g.ok) :
    Calls Try.prog 13 #[v, .agg #[(.int .i64 (g.x)), (.int .i64 (g.y)), (.int .i64 (g.p)), (.int .i64 (g.w)), (.int .i64 (g.h)), (.int .i64 (g.s))]] w fun r w' => (∃ u, r = .returned u ∧ IntsAt w.heap.size w' u (knownE es g)) ∧ Below w.heap.size w w' := by
  have HG := Lib.hid hg
  have HE := Lib.hid h
  obtain ⟨_, _, ⟨p1, p2⟩, ⟨w1, w2⟩, ⟨h1, h2⟩, _, _⟩ := hg
  have q1 : 0 ≤ g.w * g.h := Int.mul_nonneg (by omega) (by omega)
  have q2 : g.w * g.h ≤ 576 := by have := Int.mul_le_mul w2 h2 (by omega) (by omega); omega
  have hmk := make_ints (g.w * g.h) q1 (by omega)
  have hbt := build_table
  have u1 : IntKind.i64.wrap (g.w * g.h) = g.w * g.h := IntWalk.i64_in _ (by omega)
  obtain ⟨vb, vc, va, rfl, hel, hva, heo, hec⟩ := h
  clear hva heo hec
  obtain ⟨N, hN⟩ : ∃ N, N = (g.w * g.h).toNat := ⟨_, rfl⟩
  rw [← hN] at hmk
  have HN := Lib.hid hN
  clear hN
  go_enter Try.func13, Try.ntmps13
  go_wp2_with fail
  go_region_held3 (fun w' => w'.cell? ⟨w.heap.size, 0, none⟩ = some (.int .i64 (g.x)) ∧ w'.cell? ⟨w.heap.size, 1, none⟩ = some (.int .i64 (g.y)) ∧ w'.cell? ⟨w.heap.size, 2, none⟩ = some (.int .i64 (g.p)) ∧ w'.cell? ⟨w.heap.size, 3, none⟩ = some (.int .i64 (g.w)) ∧ w'.cell? ⟨w.heap.size, 4, none⟩ = some (.int .i64 (g.h)) ∧ w'.cell? ⟨w.heap.size, 5, none⟩ = some (.int .i64 (g.s))) (go_keep) (fail)
  go_wp2_with fail
  refine wp_gen ?_
  intro W hW
  have HT0 : TB w W (w.heap.size + 1 + 1) (w.heap.size + 1) N (.slice va es.length vc) es g (List.replicate N 0) := by
    have hA : W.heap[w.heap.size + 1]? = some (.cells (zerosC N) 3 (0, 0)) := by
      rw [← hW]
      have k1 := heap_alloc_new (w.alloc (.cells #[(.int .i64 (g.x)), (.int .i64 (g.y)), (.int .i64 (g.p)), (.int .i64 (g.w)), (.int .i64 (g.h)), (.int .i64 (g.s))] 29)) (.cells (zerosC N) 3)
      rw [World.size_alloc] at k1
      have hbw : Below (w.heap.size + 1 + 1) ((w.alloc (.cells #[(.int .i64 (g.x)), (.int .i64 (g.y)), (.int .i64 (g.p)), (.int .i64 (g.w)), (.int .i64 (g.h)), (.int .i64 (g.s))] 29)).alloc (.cells (zerosC N) 3)) ((((w.alloc (.cells #[(.int .i64 (g.x)), (.int .i64 (g.y)), (.int .i64 (g.p)), (.int .i64 (g.w)), (.int .i64 (g.h)), (.int .i64 (g.s))] 29)).alloc (.cells (zerosC N) 3)).alloc (.cells #[.slice va es.length vc, (.int .i64 (g.x)), (.int .i64 (g.y)), (.int .i64 (g.p)), (.int .i64 (g.w)), (.int .i64 (g.h)), (.int .i64 (g.s)), .slice (some ⟨w.heap.size + 1, 0, none⟩) N N] 82)).drew) := (by repeat' (first | (with_reducible exact Below.refl _ _) | (with_reducible assumption) | (with_reducible refine below_drewN ?_ _) | (with_reducible refine Below.alloc ?_ ?_ _) | (with_reducible refine Below.drew ?_) | (with_reducible refine Below.setCell ?_ ?_ _) | (with_reducible refine below_var ?_ ?_ (by assumption)) | (with_reducible refine below_own' ?_ (by assumption) (by assumption) ?_ ?_) | go_size))
      exact (hbw.block _ (by omega)).trans k1
    refine ⟨HE.out, by rw [← hW]; exact (by repeat' (first | (with_reducible exact Below.refl _ _) | (with_reducible assumption) | (with_reducible refine below_drewN ?_ _) | (with_reducible refine Below.alloc ?_ ?_ _) | (with_reducible refine Below.drew ?_) | (with_reducible refine Below.setCell ?_ ?_ _) | (with_reducible refine below_var ?_ ?_ (by assumption)) | (with_reducible refine below_own' ?_ (by assumption) (by assumption) ?_ ?_) | go_size)), by omega, by omega, by omega, ?_, ?_, ?_, ?_, ?_, ?_, ?_, ?_, ?_, by rw [← hW]; simp, ?_⟩
    all_goals first | (rw [← hW]; simp [go_sem]; done) | skip
    · rw [List.length_replicate, HN.out]; omega
    · intro n x hx
      rw [List.getElem?_replicate] at hx
      split at hx
      · rename_i hn
        cases hx
        have hz : (zerosC N)[n]? = some (.int .i64 (0)) := by
          have := congrArg (fun l => l[n]?) (toList_madeCells_one (.int .i64 (0)) N)
          simpa [zerosC, hn, Value.cells] using this
        refine ⟨?_, ?_⟩
        · unfold World.cell?; rw [hA]; simpa using hz
        · unfold World.frozen?; rw [hA]; simp
      · cases hx
  have c0 : W.cell? ⟨w.heap.size, 0, none⟩ = some ((.int .i64 (g.x))) := by rw [← hW]; simp [go_sem]
  have c1 : W.cell? ⟨w.heap.size, 1, none⟩ = some ((.int .i64 (g.y))) := by rw [← hW]; simp [go_sem]
  have c2 : W.cell? ⟨w.heap.size, 2, none⟩ = some ((.int .i64 (g.p))) := by rw [← hW]; simp [go_sem]
  have c3 : W.cell? ⟨w.heap.size, 3, none⟩ = some ((.int .i64 (g.w))) := by rw [← hW]; simp [go_sem]
  have c4 : W.cell? ⟨w.heap.size, 4, none⟩ = some ((.int .i64 (g.h))) := by rw [← hW]; simp [go_sem]
  have c5 : W.cell? ⟨w.heap.size, 5, none⟩ = some ((.int .i64 (g.s))) := by rw [← hW]; simp [go_sem]
  have hz : w.heap.size + 1 + 1 < W.heap.size := by rw [← hW]; simp
  clear hW hmk hbt u1
  have HT0 := Lib.hid HT0
  have HG0 : Hid (W.grownBy W (some (w.heap.size + 1))) := Lib.hid ⟨rfl, rfl, rfl, Nat.le_refl _, fun _ _ _ => rfl⟩
  have hN5 : N ≤ 576 := by have := HN.out; omega
  go_loopw [36] (fun k wr => ∃ (i : Nat) (l : List Int), i ≤ N ∧ k = (.int .i64 (i)) ∧ TB w wr (w.heap.size + 1 + 1) (w.heap.size + 1) N (.slice va es.length vc) es g l ∧ (∀ j, j < i → l[j]? = some (-1)) ∧ W.grownBy wr (some (w.heap.size + 1))) (fun k wr => N - (intOf k).toNat)
  case atStart => exact ⟨0, _, by omega, rfl, HT0.out, fun j h => by omega, HG0.out⟩
  case round =>
    clear HT0 HG0
    obtain ⟨i, l, hi, rfl, hT, hl, hgr⟩ := hrel
    have HT := Lib.hid hT
    have HL := Lib.hid hl
    have HGR := Lib.hid hgr
    have HLN := Lib.hid (show l.length = N by have := HT.out.len; have := HN.out; omega)
    clear hT hl hgr
    by_cases hlt : i < N
    · have e7 := HT.out.c7
      rw [HLN.out] at e7
      obtain ⟨k1, k2⟩ := HT.out.at' i _ (List.getElem?_eq_getElem (show i < l.length by rw [HLN.out]; exact hlt))
      generalize l[i]'(by rw [HLN.out]; exact hlt) = x at k1
      go_wp2_with fail
      go_roundw
      case rel =>
        refine ⟨i + 1, l.set i (-1), by omega, by go_num, HT.out.set _ _, fun j hj => ?_, grown_set HGR.out _ _⟩
        rcases Nat.decEq i j with h | rfl
        · rw [List.getElem?_set_ne h]; exact HL.out j (by omega)
        · exact List.getElem?_set_self (by rw [HLN.out]; exact hlt)
      case measure => simp [intOf]; omega
    · have hll : l = zeroE g := by
        refine List.ext_getElem? fun j => ?_
        unfold zeroE cellsN
        rw [← HN.out, List.getElem?_replicate]
        split
        · exact HL.out j (by omega)
        · exact List.getElem?_eq_none (by rw [HLN.out]; omega)
      subst hll
      clear HL HLN
      go_wp2_with fail
      obtain ⟨W1, hW1⟩ : ∃ W1, W1 = wr := ⟨_, rfl⟩
      subst hW1
      clear hlt hi
      go_loopw [48] (fun k wr => ∃ n : Nat, n ≤ es.length ∧ k = (.int .i64 (n)) ∧ TB w wr (w.heap.size + 1 + 1) (w.heap.size + 1) N (.slice va es.length vc) es g (seedTo es g (zeroE g) n) ∧ W.grownBy wr (some (w.heap.size + 1))) (fun k wr => es.length - (intOf k).toNat)
      case atStart => exact ⟨0, by omega, rfl, HT.out, HGR.out⟩
      case round =>
        clear HT HGR
        obtain ⟨n, hn, rfl, hT, hgr⟩ := hrel
        obtain ⟨Wn, hWn⟩ : ∃ Wn, Wn = wr := ⟨_, rfl⟩
        subst hWn
        have HT := Lib.hid hT
        have HGR := Lib.hid hgr
        have hzr := hgr.size
        clear hT hgr
        by_cases hlt : n < es.length
        · obtain ⟨e, hei, hem⟩ := get_of_lt hlt
          obtain ⟨b, vc', va', hv, _, hva, hok, hE⟩ := HE.out.carry HT.out.bel
          obtain rfl := hva (ne_nil_of_lt hlt)
          cases hv
          obtain ⟨a0, a1, a2, a3⟩ := hE n e hei
          have HEO := Lib.hid (hok e hem)
          have HSD := Lib.hid (show seedTo es g (zeroE g) (n + 1) = seedE es g (seedTo es g (zeroE g) n) n e 3 by rw [seedTo, hei])
          have HKN := Lib.hid ((Kn.zero es g).seedTo (g := g) n)
          obtain ⟨⟨x1, x2⟩, ⟨y1, y2⟩, ⟨x3, x4⟩, y3, y4⟩ := hok e hem
          have hps := slice_pts
          generalize seedTo es g (zeroE g) n = L at HT HSD HKN
          clear hok hE hei hem
          go_wp2_with fail
          refine wp_gen ?_
          intro W2 hW2
          have hk2 : Below Wn.heap.size Wn W2 := by rw [← hW2]; exact (by repeat' (first | (with_reducible exact Below.refl _ _) | (with_reducible assumption) | (with_reducible refine below_drewN ?_ _) | (with_reducible refine Below.alloc ?_ ?_ _) | (with_reducible refine Below.drew ?_) | (with_reducible refine Below.setCell ?_ ?_ _) | (with_reducible refine below_var ?_ ?_ (by assumption)) | (with_reducible refine below_own' ?_ (by assumption) (by assumption) ?_ ?_) | go_size))
          have hp : ∀ j : Nat, j < 3 → W2.cell? ⟨Wn.heap.size + 1, j * 2, none⟩ = some (.int .i64 (ptX e j)) ∧ W2.cell? ⟨Wn.heap.size + 1, j * 2 + 1, none⟩ = some (.int .i64 (ptY e j)) := by
            intro j hj
            have : j = 0 ∨ j = 1 ∨ j = 2 := by omega
            rcases this with rfl | rfl | rfl <;> (rw [← hW2]; simp [go_sem, ptX, ptY])
          have hz2 : Wn.heap.size + 2 ≤ W2.heap.size := by rw [← hW2]; simp
          have HP := Lib.hid hp
          have HT2 := Lib.hid (HT.out.below hk2)
          have HGR2 := Lib.hid (grown_below HGR.out hk2)
          clear hW2 hps hp HT a0 a1 a2 a3
          go_loopw [76] (fun k wr => ∃ j : Nat, j ≤ 3 ∧ k = (.int .i64 (j)) ∧ TB w wr (w.heap.size + 1 + 1) (w.heap.size + 1) N (.slice (some ⟨b, 0, none⟩) es.length vc) es g (seedE es g L n e j) ∧ W2.grownBy wr (some (w.heap.size + 1))) (fun k wr => 3 - (intOf k).toNat)
          case atStart => exact ⟨0, by omega, rfl, HT2.out, ⟨rfl, rfl, rfl, Nat.le_refl _, fun _ _ _ => rfl⟩⟩
          case round =>
            obtain ⟨j, hj, rfl, hT, hgr⟩ := hrel
            obtain ⟨Wj, hWj⟩ : ∃ Wj, Wj = wr := ⟨_, rfl⟩
            subst hWj
            have HT := Lib.hid hT
            have HGJ := Lib.hid hgr
            have hzj := hgr.size
            clear hT hgr HT2
            by_cases hlt3 : j < 3
            · obtain ⟨p0, p1'⟩ := HP.out j hlt3
              replace p0 := (HGJ.out.cell_far _ (blt p0) (by simp <;> omega)).trans p0
              replace p1' := (HGJ.out.cell_far _ (blt p1') (by simp <;> omega)).trans p1'
              have HC6 := Lib.hid (And.intro c0 (And.intro c1 (And.intro c2 (And.intro c3 (And.intro c4 c5)))))
              have c0' := c0
              have c1' := c1
              have c2' := c2
              have c3' := c3
              have c4' := c4
              have c5' := c5
              replace c0' := (HGR2.out.cell_far _ (blt c0') (by simp <;> omega)).trans c0'
              replace c1' := (HGR2.out.cell_far _ (blt c1') (by simp <;> omega)).trans c1'
              replace c2' := (HGR2.out.cell_far _ (blt c2') (by simp <;> omega)).trans c2'
              replace c3' := (HGR2.out.cell_far _ (blt c3') (by simp <;> omega)).trans c3'
              replace c4' := (HGR2.out.cell_far _ (blt c4') (by simp <;> omega)).trans c4'
              replace c5' := (HGR2.out.cell_far _ (blt c5') (by simp <;> omega)).trans c5'
              replace c0' := (HGJ.out.cell_far _ (blt c0') (by simp <;> omega)).trans c0'
              replace c1' := (HGJ.out.cell_far _ (blt c1') (by simp <;> omega)).trans c1'
              replace c2' := (HGJ.out.cell_far _ (blt c2') (by simp <;> omega)).trans c2'
              replace c3' := (HGJ.out.cell_far _ (blt c3') (by simp <;> omega)).trans c3'
              replace c4' := (HGJ.out.cell_far _ (blt c4') (by simp <;> omega)).trans c4'
              replace c5' := (HGJ.out.cell_far _ (blt c5') (by simp <;> omega)).trans c5'
              have nG := blt c0'
              have HPB := Lib.hid (pt_bd HEO.out j)
              have HKJ := Lib.hid (HKN.out.seedE (g := g) hlt e j)
              have HO := Lib.hid (show seedE es g L n e (j + 1) = offerE es g (seedE es g L n e j) (texI g.x g.p g.w (ptX e j)) (texI g.y g.p g.h (ptY e j)) n from rfl)
              clear c0 c1 c2 c3 c4 c5
              go_wp2_with fail
              go_call swtexel_c g (ptX e j) (ptY e j) _ HG.out HPB.out.1 HPB.out.2 as r w3 ⟨rfl, hb3⟩
              have hk3 : Below Wj.heap.size Wj w3 := (by repeat' (first | (with_reducible exact Below.refl _ _) | (with_reducible assumption) | (with_reducible refine below_drewN ?_ _) | (with_reducible refine Below.alloc ?_ ?_ _) | (with_reducible refine Below.drew ?_) | (with_reducible refine Below.setCell ?_ ?_ _) | (with_reducible refine below_var ?_ ?_ (by assumption)) | (with_reducible refine below_own' ?_ (by assumption) (by assumption) ?_ ?_) | go_size))
              have HT := Lib.hid (HT.out.below hk3)
              have HGJ := Lib.hid (grown_below HGJ.out hk3)
              clear hb3 hk3
              go_wp2_with fail
              have tb1 := clampE_bd (f := (ptX e j - g.x * 32) / (g.p * 32)) w1
              have tb2 := clampE_bd (f := (ptY e j - g.y * 32) / (g.p * 32)) h1
              go_call offer_c HT.out HG.out HKJ.out _ _ n ⟨tb1.1, tb2.1, tb1.2, tb2.2⟩ (by omega) as r w4 ⟨rfl, hT4, hg4⟩
              have HT4 := Lib.hid hT4
              have HG4 := Lib.hid (grown_trans HGJ.out hg4)
              clear hT4 hg4
              go_wp2_with fail
              go_roundw
              case rel => exact ⟨j + 1, by omega, by go_num, by rw [HO.out]; exact HT4.out, HG4.out⟩
              case measure => simp [intOf]; omega
            · have hj3 : j = 3 := by omega
              have HSD := Lib.hid (show seedTo es g (zeroE g) (n + 1) = seedE es g L n e j by rw [hj3]; exact HSD.out)
              have HGX := Lib.hid (grown_trans HGR2.out HGJ.out)
              clear hj3
              go_wp2_with fail
              go_roundw
              case rel => exact ⟨n + 1, by omega, by go_num, by rw [HSD.out]; exact HT.out, HGX.out⟩
              case measure => simp [intOf]; omega
        · have hne : n = es.length := by omega
          have HKN0 := Lib.hid ((Kn.zero es g).seedTo (g := g) n)
          rw [hne] at HT HKN0
          clear hne
          go_wp2_with fail
          go_loopw [13] (fun kk wr => ∃ K : Nat, (K : Int) ≤ g.h ∧ kk = (.int .i64 ((K : Int))) ∧ TB w wr (w.heap.size + 1 + 1) (w.heap.size + 1) N (.slice va es.length vc) es g (fwdTo es g (seedTo es g (zeroE g) es.length) K) ∧ W.grownBy wr (some (w.heap.size + 1))) (fun kk wr => (g.h - intOf kk).toNat)
          case atStart => exact ⟨0, by omega, by go_num, HT.out, HGR.out⟩
          case round =>
            clear HT HGR
            obtain ⟨K, hK, rfl, hT, hgr⟩ := hrel
            obtain ⟨Wk, hWk⟩ : ∃ Wk, Wk = wr := ⟨_, rfl⟩
            subst hWk
            have HT := Lib.hid hT
            have HGR := Lib.hid hgr
            have hzk := hgr.size
            have d3 := c3
            have d4 := c4
            replace d3 := (hgr.cell_far _ (blt d3) (by simp <;> omega)).trans d3
            replace d4 := (hgr.cell_far _ (blt d4) (by simp <;> omega)).trans d4
            have nG := blt d3
            clear hT hgr
            by_cases hlk : (K : Int) < g.h
            · have hlk2 : (K : Int) ≤ g.h - 1 := by omega
              have HKN := Lib.hid (HKN0.out.fwdTo (g := g) K)
              have HTo := Lib.hid (show fwdTo es g (seedTo es g (zeroE g) es.length) (K + 1) = fwdRow es g ((K : Int)) (fwdTo es g (seedTo es g (zeroE g) es.length) K) g.w.toNat from rfl)
              generalize fwdTo es g (seedTo es g (zeroE g) es.length) K = Lk at HT HKN HTo
              go_wp2_with fail
              go_loopw [14] (fun ii wr => ∃ I : Nat, (I : Int) ≤ g.w ∧ ii = (.int .i64 ((I : Int))) ∧ TB w wr (w.heap.size + 1 + 1) (w.heap.size + 1) N (.slice va es.length vc) es g (fwdRow es g ((K : Int)) Lk I) ∧ W.grownBy wr (some (w.heap.size + 1))) (fun ii wr => (g.w - intOf ii).toNat)
              case atStart => exact ⟨0, by omega, by go_num, HT.out, HGR.out⟩
              case round =>
                clear HT HGR
                obtain ⟨I, hI, rfl, hT, hgr⟩ := hrel
                obtain ⟨Wi, hWi⟩ : ∃ Wi, Wi = wr := ⟨_, rfl⟩
                subst hWi
                have HT := Lib.hid hT
                have HGR := Lib.hid hgr
                have hzi := hgr.size
                have d3 := c3
                have d4 := c4
                replace d3 := (hgr.cell_far _ (blt d3) (by simp <;> omega)).trans d3
                replace d4 := (hgr.cell_far _ (blt d4) (by simp <;> omega)).trans d4
                have nG := blt d3
                clear hT hgr
                by_cases hli : (I : Int) < g.w
                · have hli2 : (I : Int) ≤ g.w - 1 := by omega
                  have HKI := Lib.hid (HKN.out.fwdRow (g := g) ((K : Int)) I)
                  have HRo := Lib.hid (show fwdRow es g ((K : Int)) Lk (I + 1) = askE es g dirF ((I : Int)) ((K : Int)) (fwdRow es g ((K : Int)) Lk I) 4 from rfl)
                  generalize fwdRow es g ((K : Int)) Lk I = Li at HT HKI HRo
                  have hbd := build_dir
                  have hsd := slice_dirs
                  go_wp2_with fail
                  refine wp_gen ?_
                  intro Wd hWd
                  have hkd : Below Wi.heap.size Wi Wd := by rw [← hWd]; exact (by repeat' (first | (with_reducible exact Below.refl _ _) | (with_reducible assumption) | (with_reducible refine below_drewN ?_ _) | (with_reducible refine Below.alloc ?_ ?_ _) | (with_reducible refine Below.drew ?_) | (with_reducible refine Below.setCell ?_ ?_ _) | (with_reducible refine below_var ?_ ?_ (by assumption)) | (with_reducible refine below_own' ?_ (by assumption) (by assumption) ?_ ?_) | go_size))
                  have hd : ∀ n : Nat, n < 4 → Wd.cell? ⟨Wi.heap.size, n * 2, none⟩ = some (.int .i64 ((dirF n).1)) ∧ Wd.cell? ⟨Wi.heap.size, n * 2 + 1, none⟩ = some (.int .i64 ((dirF n).2)) := by
                    intro n hn
                    have : n = 0 ∨ n = 1 ∨ n = 2 ∨ n = 3 := by omega
                    rcases this with rfl | rfl | rfl | rfl <;> (rw [← hWd]; simp [go_sem, dirF])
                  have hzd : Wi.heap.size + 1 ≤ Wd.heap.size := by rw [← hWd]; simp
                  have HD := Lib.hid hd
                  have HTd := Lib.hid (HT.out.below hkd)
                  have HGd := Lib.hid (grown_below HGR.out hkd)
                  clear hWd hbd hsd hd HT d3 d4
                  go_loopw [111] (fun nn wr => ∃ n : Nat, n ≤ 4 ∧ nn = (.int .i64 (n)) ∧ TB w wr (w.heap.size + 1 + 1) (w.heap.size + 1) N (.slice va es.length vc) es g (askE es g dirF ((I : Int)) ((K : Int)) Li n) ∧ Wd.grownBy wr (some (w.heap.size + 1))) (fun nn wr => 4 - (intOf nn).toNat)
                  case atStart => exact ⟨0, by omega, rfl, HTd.out, ⟨rfl, rfl, rfl, Nat.le_refl _, fun _ _ _ => rfl⟩⟩
                  case round =>
                    obtain ⟨n, hn, rfl, hT, hgr⟩ := hrel
                    have HT := Lib.hid hT
                    have HGJ := Lib.hid hgr
                    have hzj := hgr.size
                    clear hT hgr HTd
                    by_cases hln : n < 4
                    · obtain ⟨p0, p1'⟩ := HD.out n hln
                      replace p0 := (HGJ.out.cell_far _ (blt p0) (by simp <;> omega)).trans p0
                      replace p1' := (HGJ.out.cell_far _ (blt p1') (by simp <;> omega)).trans p1'
                      have nD := blt p0
                      obtain ⟨⟨v1, v2⟩, v3, v4⟩ := dirF_bd n
                      have HKJ := Lib.hid (HKI.out.ask (g := g) dirF ((I : Int)) ((K : Int)) n)
                      have HO := Lib.hid (show askE es g dirF ((I : Int)) ((K : Int)) Li (n + 1) = offerE es g (askE es g dirF ((I : Int)) ((K : Int)) Li n) ((I : Int)) ((K : Int)) (knowsE g (askE es g dirF ((I : Int)) ((K : Int)) Li n) ((I : Int) + (dirF n).1) ((K : Int) + (dirF n).2)) from rfl)
                      generalize askE es g dirF ((I : Int)) ((K : Int)) Li n = Ln at HT HKJ HO
                      go_wp2_with fail
                      go_call knows_c (HT.out.below (by repeat' (first | (with_reducible exact Below.refl _ _) | (with_reducible assumption) | (with_reducible refine below_drewN ?_ _) | (with_reducible refine Below.alloc ?_ ?_ _) | (with_reducible refine Below.drew ?_) | (with_reducible refine Below.setCell ?_ ?_ _) | (with_reducible refine below_var ?_ ?_ (by assumption)) | (with_reducible refine below_own' ?_ (by assumption) (by assumption) ?_ ?_) | go_size))) HG.out ((I : Int) + (dirF n).1) ((K : Int) + (dirF n).2) ⟨by omega, by omega⟩ ⟨by omega, by omega⟩ as r w3 ⟨rfl, hb3⟩
                      have hk3 : Below wr.heap.size wr w3 := (by repeat' (first | (with_reducible exact Below.refl _ _) | (with_reducible assumption) | (with_reducible refine below_drewN ?_ _) | (with_reducible refine Below.alloc ?_ ?_ _) | (with_reducible refine Below.drew ?_) | (with_reducible refine Below.setCell ?_ ?_ _) | (with_reducible refine below_var ?_ ?_ (by assumption)) | (with_reducible refine below_own' ?_ (by assumption) (by assumption) ?_ ?_) | go_size))
                      have HT := Lib.hid (HT.out.below hk3)
                      have HGJ := Lib.hid (grown_below HGJ.out hk3)
                      clear hb3 hk3
                      go_wp2_with fail
                      go_call offer_c HT.out HG.out HKJ.out ((I : Int)) ((K : Int)) _ ⟨by omega, by omega, by omega, by omega⟩ (knowsE_lt HKJ.out _ _) as r w4 ⟨rfl, hT4, hg4⟩
                      have HT4 := Lib.hid hT4
                      have HG4 := Lib.hid (grown_trans HGJ.out hg4)
                      clear hT4 hg4
                      go_wp2_with fail
                      go_roundw
                      case rel => exact ⟨n + 1, by omega, by go_num, by rw [HO.out]; exact HT4.out, HG4.out⟩
                      case measure => simp [intOf]; omega
                    · have hn4 : n = 4 := by omega
                      have HRo := Lib.hid (show fwdRow es g ((K : Int)) Lk (I + 1) = askE es g dirF ((I : Int)) ((K : Int)) Li n by rw [hn4]; exact HRo.out)
                      have HGX := Lib.hid (grown_trans HGd.out HGJ.out)
                      clear hn4
                      go_wp2_with fail
                      go_roundw
                      case rel => exact ⟨I + 1, by omega, by go_num, by rw [HRo.out]; exact HT.out, HGX.out⟩
                      case measure => simp [intOf]; omega
                · have hIw : I = g.w.toNat := by omega
                  have HTo := Lib.hid (show fwdTo es g (seedTo es g (zeroE g) es.length) (K + 1) = fwdRow es g ((K : Int)) Lk I by rw [hIw]; exact HTo.out)
                  clear hIw
                  go_wp2_with fail
                  go_roundw
                  case rel => exact ⟨K + 1, by omega, by go_num, by rw [HTo.out]; exact HT.out, HGR.out⟩
                  case measure => simp [intOf]; omega
            · have HKE := Lib.hid (show K = g.h.toNat by omega)
              have HKN1 := Lib.hid (show Kn es (fwdTo es g (seedTo es g (zeroE g) es.length) g.h.toNat) by rw [← HKE.out]; exact HKN0.out.fwdTo (g := g) K)
              have HT' := HT.out
              rw [HKE.out] at HT'
              have HT := Lib.hid HT'
              clear HT' HKN0
              have HKN0 := HKN1
              have HKE0 := HKE
              go_wp2_with fail
              go_loopw [17] (fun kk wr => ∃ K : Nat, (K : Int) ≤ g.h ∧ kk = (.int .i64 (g.h - 1 - (K : Int))) ∧ TB w wr (w.heap.size + 1 + 1) (w.heap.size + 1) N (.slice va es.length vc) es g (bwdTo es g (fwdTo es g (seedTo es g (zeroE g) es.length) g.h.toNat) K) ∧ W.grownBy wr (some (w.heap.size + 1))) (fun kk wr => (intOf kk + 1).toNat)
              case atStart => exact ⟨0, by omega, by go_num, HT.out, HGR.out⟩
              case round =>
                clear HT HGR
                obtain ⟨K, hK, rfl, hT, hgr⟩ := hrel
                obtain ⟨Wk, hWk⟩ : ∃ Wk, Wk = wr := ⟨_, rfl⟩
                subst hWk
                have HT := Lib.hid hT
                have HGR := Lib.hid hgr
                have hzk := hgr.size
                have d3 := c3
                have d4 := c4
                replace d3 := (hgr.cell_far _ (blt d3) (by simp <;> omega)).trans d3
                replace d4 := (hgr.cell_far _ (blt d4) (by simp <;> omega)).trans d4
                have nG := blt d3
                clear hT hgr
                by_cases hlk : (K : Int) < g.h
                · have hlk2 : (K : Int) ≤ g.h - 1 := by omega
                  have HKN := Lib.hid (HKN0.out.bwdTo (g := g) K)
                  have HTo := Lib.hid (show bwdTo es g (fwdTo es g (seedTo es g (zeroE g) es.length) g.h.toNat) (K + 1) = bwdRow es g (g.h - 1 - (K : Int)) (bwdTo es g (fwdTo es g (seedTo es g (zeroE g) es.length) g.h.toNat) K) g.w.toNat from rfl)
                  generalize bwdTo es g (fwdTo es g (seedTo es g (zeroE g) es.length) g.h.toNat) K = Lk at HT HKN HTo
                  go_wp2_with fail
                  go_loopw [18] (fun ii wr => ∃ I : Nat, (I : Int) ≤ g.w ∧ ii = (.int .i64 (g.w - 1 - (I : Int))) ∧ TB w wr (w.heap.size + 1 + 1) (w.heap.size + 1) N (.slice va es.length vc) es g (bwdRow es g (g.h - 1 - (K : Int)) Lk I) ∧ W.grownBy wr (some (w.heap.size + 1))) (fun ii wr => (intOf ii + 1).toNat)
                  case atStart => exact ⟨0, by omega, by go_num, HT.out, HGR.out⟩
                  case round =>
                    clear HT HGR
                    obtain ⟨I, hI, rfl, hT, hgr⟩ := hrel
                    obtain ⟨Wi, hWi⟩ : ∃ Wi, Wi = wr := ⟨_, rfl⟩
                    subst hWi
                    have HT := Lib.hid hT
                    have HGR := Lib.hid hgr
                    have hzi := hgr.size
                    have d3 := c3
                    have d4 := c4
                    replace d3 := (hgr.cell_far _ (blt d3) (by simp <;> omega)).trans d3
                    replace d4 := (hgr.cell_far _ (blt d4) (by simp <;> omega)).trans d4
                    have nG := blt d3
                    clear hT hgr
                    by_cases hli : (I : Int) < g.w
                    · have hli2 : (I : Int) ≤ g.w - 1 := by omega
                      have HKI := Lib.hid (HKN.out.bwdRow (g := g) (g.h - 1 - (K : Int)) I)
                      have HRo := Lib.hid (show bwdRow es g (g.h - 1 - (K : Int)) Lk (I + 1) = askE es g dirB (g.w - 1 - (I : Int)) (g.h - 1 - (K : Int)) (bwdRow es g (g.h - 1 - (K : Int)) Lk I) 4 from rfl)
                      generalize bwdRow es g (g.h - 1 - (K : Int)) Lk I = Li at HT HKI HRo
                      have hbd := build_dir
                      have hsd := slice_dirs
                      go_wp2_with fail
                      refine wp_gen ?_
                      intro Wd hWd
                      have hkd : Below Wi.heap.size Wi Wd := by rw [← hWd]; exact (by repeat' (first | (with_reducible exact Below.refl _ _) | (with_reducible assumption) | (with_reducible refine below_drewN ?_ _) | (with_reducible refine Below.alloc ?_ ?_ _) | (with_reducible refine Below.drew ?_) | (with_reducible refine Below.setCell ?_ ?_ _) | (with_reducible refine below_var ?_ ?_ (by assumption)) | (with_reducible refine below_own' ?_ (by assumption) (by assumption) ?_ ?_) | go_size))
                      have hd : ∀ n : Nat, n < 4 → Wd.cell? ⟨Wi.heap.size, n * 2, none⟩ = some (.int .i64 ((dirB n).1)) ∧ Wd.cell? ⟨Wi.heap.size, n * 2 + 1, none⟩ = some (.int .i64 ((dirB n).2)) := by
                        intro n hn
                        have : n = 0 ∨ n = 1 ∨ n = 2 ∨ n = 3 := by omega
                        rcases this with rfl | rfl | rfl | rfl <;> (rw [← hWd]; simp [go_sem, dirB])
                      have hzd : Wi.heap.size + 1 ≤ Wd.heap.size := by rw [← hWd]; simp
                      have HD := Lib.hid hd
                      have HTd := Lib.hid (HT.out.below hkd)
                      have HGd := Lib.hid (grown_below HGR.out hkd)
                      clear hWd hbd hsd hd HT d3 d4
                      go_loopw [150] (fun nn wr => ∃ n : Nat, n ≤ 4 ∧ nn = (.int .i64 (n)) ∧ TB w wr (w.heap.size + 1 + 1) (w.heap.size + 1) N (.slice va es.length vc) es g (askE es g dirB (g.w - 1 - (I : Int)) (g.h - 1 - (K : Int)) Li n) ∧ Wd.grownBy wr (some (w.heap.size + 1))) (fun nn wr => 4 - (intOf nn).toNat)
                      case atStart => exact ⟨0, by omega, rfl, HTd.out, ⟨rfl, rfl, rfl, Nat.le_refl _, fun _ _ _ => rfl⟩⟩
                      case round =>
                        obtain ⟨n, hn, rfl, hT, hgr⟩ := hrel
                        have HT := Lib.hid hT
                        have HGJ := Lib.hid hgr
                        have hzj := hgr.size
                        clear hT hgr HTd
                        by_cases hln : n < 4
                        · obtain ⟨p0, p1'⟩ := HD.out n hln
                          replace p0 := (HGJ.out.cell_far _ (blt p0) (by simp <;> omega)).trans p0
                          replace p1' := (HGJ.out.cell_far _ (blt p1') (by simp <;> omega)).trans p1'
                          have nD := blt p0
                          obtain ⟨⟨v1, v2⟩, v3, v4⟩ := dirB_bd n
                          have HKJ := Lib.hid (HKI.out.ask (g := g) dirB (g.w - 1 - (I : Int)) (g.h - 1 - (K : Int)) n)
                          have HO := Lib.hid (show askE es g dirB (g.w - 1 - (I : Int)) (g.h - 1 - (K : Int)) Li (n + 1) = offerE es g (askE es g dirB (g.w - 1 - (I : Int)) (g.h - 1 - (K : Int)) Li n) (g.w - 1 - (I : Int)) (g.h - 1 - (K : Int)) (knowsE g (askE es g dirB (g.w - 1 - (I : Int)) (g.h - 1 - (K : Int)) Li n) (g.w - 1 - (I : Int) + (dirB n).1) (g.h - 1 - (K : Int) + (dirB n).2)) from rfl)
                          generalize askE es g dirB (g.w - 1 - (I : Int)) (g.h - 1 - (K : Int)) Li n = Ln at HT HKJ HO
                          go_wp2_with fail
                          go_call knows_c (HT.out.below (by repeat' (first | (with_reducible exact Below.refl _ _) | (with_reducible assumption) | (with_reducible refine below_drewN ?_ _) | (with_reducible refine Below.alloc ?_ ?_ _) | (with_reducible refine Below.drew ?_) | (with_reducible refine Below.setCell ?_ ?_ _) | (with_reducible refine below_var ?_ ?_ (by assumption)) | (with_reducible refine below_own' ?_ (by assumption) (by assumption) ?_ ?_) | go_size))) HG.out (g.w - 1 - (I : Int) + (dirB n).1) (g.h - 1 - (K : Int) + (dirB n).2) ⟨by omega, by omega⟩ ⟨by omega, by omega⟩ as r w3 ⟨rfl, hb3⟩
                          have hk3 : Below wr.heap.size wr w3 := (by repeat' (first | (with_reducible exact Below.refl _ _) | (with_reducible assumption) | (with_reducible refine below_drewN ?_ _) | (with_reducible refine Below.alloc ?_ ?_ _) | (with_reducible refine Below.drew ?_) | (with_reducible refine Below.setCell ?_ ?_ _) | (with_reducible refine below_var ?_ ?_ (by assumption)) | (with_reducible refine below_own' ?_ (by assumption) (by assumption) ?_ ?_) | go_size))
                          have HT := Lib.hid (HT.out.below hk3)
                          have HGJ := Lib.hid (grown_below HGJ.out hk3)
                          clear hb3 hk3
                          go_wp2_with fail
                          go_call offer_c HT.out HG.out HKJ.out (g.w - 1 - (I : Int)) (g.h - 1 - (K : Int)) _ ⟨by omega, by omega, by omega, by omega⟩ (knowsE_lt HKJ.out _ _) as r w4 ⟨rfl, hT4, hg4⟩
                          have HT4 := Lib.hid hT4
                          have HG4 := Lib.hid (grown_trans HGJ.out hg4)
                          clear hT4 hg4
                          go_wp2_with fail
                          go_roundw
                          case rel => exact ⟨n + 1, by omega, by go_num, by rw [HO.out]; exact HT4.out, HG4.out⟩
                          case measure => simp [intOf]; omega
                        · have hn4 : n = 4 := by omega
                          have HRo := Lib.hid (show bwdRow es g (g.h - 1 - (K : Int)) Lk (I + 1) = askE es g dirB (g.w - 1 - (I : Int)) (g.h - 1 - (K : Int)) Li n by rw [hn4]; exact HRo.out)
                          have HGX := Lib.hid (grown_trans HGd.out HGJ.out)
                          clear hn4
                          go_wp2_with fail
                          go_roundw
                          case rel => exact ⟨I + 1, by omega, by go_num, by rw [HRo.out]; exact HT.out, HGX.out⟩
                          case measure => simp [intOf]; omega
                    · have hIw : I = g.w.toNat := by omega
                      have HTo := Lib.hid (show bwdTo es g (fwdTo es g (seedTo es g (zeroE g) es.length) g.h.toNat) (K + 1) = bwdRow es g (g.h - 1 - (K : Int)) Lk I by rw [hIw]; exact HTo.out)
                      clear hIw
                      go_wp2_with fail
                      go_roundw
                      case rel => exact ⟨K + 1, by omega, by go_num, by rw [HTo.out]; exact HT.out, HGR.out⟩
                      case measure => simp [intOf]; omega
                · have HKE := Lib.hid (show K = g.h.toNat by omega)
                  have HKN := Lib.hid (show bwdTo es g (fwdTo es g (seedTo es g (zeroE g) es.length) g.h.toNat) K = knownE es g by rw [HKE.out]; rfl)
                  rw [HKN.out] at HT
                  have e7 := HT.out.c7
                  have HLN := Lib.hid (show (knownE es g).length = cellsN g by have := HT.out.len; unfold cellsN; omega)
                  rw [HLN.out] at e7
                  go_wp2_with fail
                  go_ret
                  exact ⟨⟨_, rfl, ⟨w.heap.size + 1, N, by rw [HLN.out]; rfl, by omega, fun n x hx => (HT.out.at' n x hx).1⟩⟩, HT.out.bel⟩

end Go.Proofs.Ytadohkidfkbncaa
