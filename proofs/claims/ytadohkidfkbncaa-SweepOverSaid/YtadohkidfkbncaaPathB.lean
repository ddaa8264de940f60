/-
  The walk of path.Segs.
-/
import Derived.Test.YtadohkidfkbncaaPathA
import Derived.Deep.CutBlock
namespace Go.Proofs.Ytadohkidfkbncaa
open Go.RowKit
set_option linter.unusedSimpArgs false

/-- The cells of a row of points. -/
def VtxCells (w : World) (b : Nat) (c : List Vtx) : Prop :=
  ∀ i v, c[i]? = some v → w.cell? ⟨b, i * 3, none⟩ = some (.int .i64 (v.x)) ∧ w.cell? ⟨b, i * 3 + 1, none⟩ = some (.int .i64 (v.y)) ∧ w.cell? ⟨b, i * 3 + 2, none⟩ = some (.bool v.on)

theorem VtxCells.carry {w w1 : World} {b : Nat} {c : List Vtx} (h : VtxCells w b c) (hb : Below w.heap.size w w1) : VtxCells w1 b c := fun i v hi => by
  obtain ⟨c0, c1, c2⟩ := h i v hi
  have hlt : b < w.heap.size := World.block_lt_of_cell? _ _ c0
  exact ⟨(hb.cell (p := ⟨b, _, none⟩) hlt).trans c0, (hb.cell (p := ⟨b, _, none⟩) hlt).trans c1, (hb.cell (p := ⟨b, _, none⟩) hlt).trans c2⟩

/-- A slice of points, told. -/
def VtxAt (w : World) (v : Value) (c : List Vtx) : Prop :=
  ∃ (b cap : Nat) (a : Option Addr), v = .slice a c.length cap ∧ c.length ≤ 900 ∧ (c ≠ [] → a = some ⟨b, 0, none⟩) ∧ (∀ e ∈ c, e.ok) ∧ VtxCells w b c

theorem VtxAt.carry {w w1 : World} {v : Value} {c : List Vtx} (h : VtxAt w v c) (hb : Below w.heap.size w w1) : VtxAt w1 v c := by
  obtain ⟨b, cap, a, h1, h2, h3, h4, h5⟩ := h
  exact ⟨b, cap, a, h1, h2, h3, h4, h5.carry hb⟩

theorem firstOn_off : ∀ {c : List Vtx} {i : Nat} {v : Vtx}, c[i]? = some v → v.on = false → i ≤ firstOn c → i + 1 ≤ firstOn c
  | [], _, _, h, _, _ => by simp at h
  | u :: us, 0, v, h, hv, _ => by
    simp at h; subst h
    simp [firstOn, hv]
  | u :: us, i + 1, v, h, hv, hi => by
    simp at h
    unfold firstOn at hi ⊢
    split at hi
    · omega
    · rename_i hu
      rw [if_neg hu]
      have := firstOn_off h hv (by omega)
      omega

theorem firstOn_on : ∀ {c : List Vtx} {i : Nat} {v : Vtx}, c[i]? = some v → v.on = true → firstOn c ≤ i
  | [], _, _, h, _ => by simp at h
  | u :: us, 0, v, h, hv => by
    simp at h; subst h
    simp [firstOn, hv]
  | u :: us, i + 1, v, h, hv => by
    simp at h
    have := firstOn_on h hv
    unfold firstOn
    split <;> omega

/-- What is held in memory while pieces are made. -/
structure PM (w0 w : World) (K H O G P V : Nat) (gx gy : Int) (s : St) (u : Value) : Prop where
  hx : w.cell? ⟨H, 0, none⟩ = some (.int .i64 (s.hx))
  hy : w.cell? ⟨H, 1, none⟩ = some (.int .i64 (s.hy))
  fx : w.frozen? ⟨H, 0, none⟩ = false
  fy : w.frozen? ⟨H, 1, none⟩ = false
  o : w.cell? ⟨O, 0, none⟩ = some u
  fo : w.frozen? ⟨O, 0, none⟩ = false
  gx : w.cell? ⟨G, 0, none⟩ = some (.int .i64 (gx))
  gy : w.cell? ⟨G, 1, none⟩ = some (.int .i64 (gy))
  own : w.ownsRow K 123 7 u s.segs.length (sgCells s.segs)
  fp : w.frozen? ⟨P, 0, none⟩ = false
  pn : s.pull = none → w.cell? ⟨P, 0, none⟩ = some (.pointer none)
  ps : ∀ v, s.pull = some v → (w.cell? ⟨P, 0, none⟩ = some (.pointer (some ⟨V, 0, none⟩)) ∧ w.cell? ⟨V, 0, none⟩ = some (.int .i64 (v.x)) ∧ w.cell? ⟨V, 1, none⟩ = some (.int .i64 (v.y)) ∧ w.cell? ⟨V, 2, none⟩ = some (.bool v.on) ∧ K ≤ V ∧ u.ownBlock ≠ some V)
  hK : K ≤ w.heap.size
  bel : Below w0.heap.size w0 w
  lt : w0.heap.size ≤ H ∧ w0.heap.size ≤ O ∧ w0.heap.size ≤ G ∧ w0.heap.size ≤ P ∧ H < K ∧ O < K ∧ G < K ∧ P < K ∧ H ≠ O ∧ H ≠ G ∧ H ≠ P ∧ O ≠ G ∧ O ≠ P ∧ G ≠ P
  ok : s.ok

theorem PM.pcell {w0 w : World} {K H O G P V : Nat} {gx gy : Int} {s : St} {u : Value} (h : PM w0 w K H O G P V gx gy s u) : ∃ x, w.cell? ⟨P, 0, none⟩ = some x := by
  cases hp : s.pull with
  | none => exact ⟨_, h.pn hp⟩
  | some v => exact ⟨_, (h.ps v hp).1⟩

theorem PM.below {w0 w w1 : World} {K H O G P V : Nat} {gx gy : Int} {s : St} {u : Value} (h : PM w0 w K H O G P V gx gy s u) (hb : Below w.heap.size w w1) : PM w0 w1 K H O G P V gx gy s u := by
  have c : ∀ {b o : Nat} {x : Value}, w.cell? ⟨b, o, none⟩ = some x → w1.cell? ⟨b, o, none⟩ = some x := fun {b o x} e => (hb.cell (p := ⟨b, o, none⟩) (blt e)).trans e
  have f : ∀ {b o : Nat} {x : Value}, w.cell? ⟨b, o, none⟩ = some x → ∀ {o'}, w.frozen? ⟨b, o', none⟩ = false → w1.frozen? ⟨b, o', none⟩ = false := fun {b o x} e {o'} e' => (hb.frozen (p := ⟨b, o', none⟩) (blt e)).trans e'
  obtain ⟨x, hp⟩ := h.pcell
  have hsz : w0.heap.size ≤ w.heap.size := h.bel.size
  exact ⟨c h.hx, c h.hy, f h.hx h.fx, f h.hx h.fy, c h.o, f h.o h.fo, c h.gx, c h.gy, ownsRow_below h.own hb, f hp h.fp, fun e => c (h.pn e),
    fun v e => (by obtain ⟨a1, a2, a3, a4, a5, a6⟩ := h.ps v e; exact ⟨c a1, c a2, c a3, c a4, a5, a6⟩), Nat.le_trans h.hK hb.size, h.bel.trans (hb.mono hsz), h.lt, h.ok⟩

/-- The end of a piece, either way. -/
theorem end_c {w0 w : World} {K H O G P V : Nat} {gx gy : Int} {s : St} {u : Value} (h : PM w0 w K H O G P V gx gy s u) (px py : Int) (hl : s.segs.length ≤ 1000) (h1 : Bd 510 px) (h2 : Bd 510 py) :
    Calls Try.prog 77 #[.agg #[(.int .i64 (px)), (.int .i64 (py))], .pointer (some ⟨P, 0, none⟩), .pointer (some ⟨O, 0, none⟩), .pointer (some ⟨H, 0, none⟩)] w fun r w' =>
      r = .returned (.tuple #[]) ∧ (∀ b, K ≤ b → b < w.heap.size → u.ownBlock ≠ some b → w'.heap[b]? = w.heap[b]?) ∧ w.heap.size ≤ w'.heap.size ∧ (∃ u', PM w0 w' K H O G P V gx gy (s.fin px py) u' ∧ (u'.ownBlock = u.ownBlock ∨ ∃ g, u'.ownBlock = some g ∧ w.heap.size ≤ g)) := by
  obtain ⟨l1, l2, l3, l4, l5, l6, l7, l8, l9, la, lb, lc, ld, le⟩ := h.lt
  have key : Calls Try.prog 77 #[.agg #[(.int .i64 (px)), (.int .i64 (py))], .pointer (some ⟨P, 0, none⟩), .pointer (some ⟨O, 0, none⟩), .pointer (some ⟨H, 0, none⟩)] w fun r w' =>
      r = .returned (.tuple #[]) ∧ Ends w w' H O u.ownBlock ∧
      w'.cell? ⟨H, 0, none⟩ = some (.int .i64 (px)) ∧ w'.cell? ⟨H, 1, none⟩ = some (.int .i64 (py)) ∧ w'.frozen? ⟨H, 0, none⟩ = false ∧ w'.frozen? ⟨H, 1, none⟩ = false ∧
      ∃ u', w'.cell? ⟨O, 0, none⟩ = some u' ∧ w'.frozen? ⟨O, 0, none⟩ = false ∧ w'.ownsRow K 123 7 u' (s.fin px py).segs.length (sgCells (s.fin px py).segs) ∧ (u'.ownBlock = u.ownBlock ∨ ∃ g, u'.ownBlock = some g ∧ w.heap.size ≤ g) := by
    cases hp : s.pull with
    | none => exact end0_c s px py K H O P u w h.hx h.hy h.fx h.fy h.o h.fo h.own h.hK l5 l6 l9 hl (h.pn hp) hp
    | some v =>
      obtain ⟨a1, a2, a3, a4, a5, a6⟩ := h.ps v hp
      exact end1_c s v px py K H O P V u w h.hx h.hy h.fx h.fy h.o h.fo h.own h.hK l5 l6 l9 hl a1 a2 a3 a4 (h.ok.2.2.2 v hp) hp l8 a6
  refine key.mono ?_
  rintro r w' ⟨rfl, hE, e1, e2, e3, e4, u', e5, e6, e7, e8⟩
  have nG := blt h.gx
  obtain ⟨xp, hpc⟩ := h.pcell
  have nP := blt hpc
  have hown := fun k hk => (h.own.lt k hk)
  have hbk : ∀ b, b < K → b < w.heap.size → b ≠ H → b ≠ O → w'.heap[b]? = w.heap[b]? := fun b h1 h2 h3 h4 => hE.block b h2 h3 h4 (fun e => by have := (hown b e.symm).1; omega)
  refine ⟨rfl, fun b h1 h2 h3 => hE.block b h2 (by omega) (by omega) (fun e => h3 e.symm), hE.size, u', ?_, e8⟩
  have cG : ∀ o, w'.cell? ⟨G, o, none⟩ = w.cell? ⟨G, o, none⟩ := fun o => World.cell?_of_block (hbk G l7 nG (by omega) (by omega))
  have cP : ∀ o, w'.cell? ⟨P, o, none⟩ = w.cell? ⟨P, o, none⟩ := fun o => World.cell?_of_block (hbk P l8 nP (by omega) (by omega))
  have fP : ∀ o, w'.frozen? ⟨P, o, none⟩ = w.frozen? ⟨P, o, none⟩ := fun o => World.frozen?_of_block (hbk P l8 nP (by omega) (by omega))
  refine ⟨e1, e2, e3, e4, e5, e6, (cG _).trans h.gx, (cG _).trans h.gy, e7, (fP _).trans h.fp, fun e => (cP _).trans (h.pn e), ?_, Nat.le_trans h.hK hE.size, ?_, h.lt, St.fin_ok h.ok h1 h2⟩
  · intro v e
    obtain ⟨a1, a2, a3, a4, a5, a6⟩ := h.ps v e
    have nV := blt a2
    have cV : ∀ o, w'.cell? ⟨V, o, none⟩ = w.cell? ⟨V, o, none⟩ := fun o => World.cell?_of_block (hE.block V nV (by omega) (by omega) (fun e => a6 e.symm))
    refine ⟨(cP _).trans a1, (cV _).trans a2, (cV _).trans a3, (cV _).trans a4, a5, ?_⟩
    rcases e8 with h8 | ⟨g, h8, h9⟩
    · rw [h8]; exact a6
    · rw [h8]; intro e; cases e; omega
  · exact ⟨hE.os.trans h.bel.os, hE.tape.trans h.bel.tape, hE.output.trans h.bel.output, Nat.le_trans h.bel.size hE.size, fun k hk => (hbk k (by omega) (by have := h.bel.size; omega) (by omega) (by omega)).trans (h.bel.block k hk)⟩

/-- The pull is forgotten. -/
theorem PM.free {w0 w : World} {K H O G P V : Nat} {gx gy : Int} {s : St} {u : Value} (h : PM w0 w K H O G P V gx gy s u) : PM w0 (w.setCell ⟨P, 0, none⟩ (.pointer none)) K H O G P V gx gy { s with pull := none } u := by
  obtain ⟨l1, l2, l3, l4, l5, l6, l7, l8, l9, la, lb, lc, ld, le⟩ := h.lt
  obtain ⟨xp, hpc⟩ := h.pcell
  have c : ∀ b o : Nat, b ≠ P → (w.setCell ⟨P, 0, none⟩ (.pointer none)).cell? ⟨b, o, none⟩ = w.cell? ⟨b, o, none⟩ := fun b o hb => World.cell?_setCell_far _ _ _ _ (by simpa using fun e : P = b => hb e.symm)
  refine ⟨(c _ _ lb).trans h.hx, (c _ _ lb).trans h.hy, by simpa using h.fx, by simpa using h.fy, (c _ _ ld).trans h.o, by simpa using h.fo, (c _ _ le).trans h.gx, (c _ _ le).trans h.gy, ownsRow_set h.own l8 _, by simpa using h.fp,
    fun _ => World.cell?_setCell_same' _ _ _ (by simp [hpc]), (fun v e => by cases e), by simpa using h.hK, ?_, h.lt, h.ok.1, h.ok.2.1, h.ok.2.2.1, (fun v e => by cases e)⟩
  exact Below.setCell h.bel l4 _

/-- A point pulls. -/
theorem PM.catch {w0 w : World} {K H O G P V : Nat} {gx gy : Int} {s : St} {u : Value} (h : PM w0 w K H O G P V gx gy s u) (V' : Nat) (v : Vtx) (c0 : w.cell? ⟨V', 0, none⟩ = some (.int .i64 (v.x))) (c1 : w.cell? ⟨V', 1, none⟩ = some (.int .i64 (v.y))) (c2 : w.cell? ⟨V', 2, none⟩ = some (.bool v.on))
    (hV : K ≤ V') (hne : u.ownBlock ≠ some V') (hv : v.ok) : PM w0 (w.setCell ⟨P, 0, none⟩ (.pointer (some ⟨V', 0, none⟩))) K H O G P V' gx gy { s with pull := some v } u := by
  obtain ⟨l1, l2, l3, l4, l5, l6, l7, l8, l9, la, lb, lc, ld, le⟩ := h.lt
  obtain ⟨xp, hpc⟩ := h.pcell
  have c : ∀ b o : Nat, b ≠ P → (w.setCell ⟨P, 0, none⟩ (.pointer (some ⟨V', 0, none⟩))).cell? ⟨b, o, none⟩ = w.cell? ⟨b, o, none⟩ := fun b o hb => World.cell?_setCell_far _ _ _ _ (by simpa using fun e : P = b => hb e.symm)
  refine ⟨(c _ _ lb).trans h.hx, (c _ _ lb).trans h.hy, by simpa using h.fx, by simpa using h.fy, (c _ _ ld).trans h.o, by simpa using h.fo, (c _ _ le).trans h.gx, (c _ _ le).trans h.gy, ownsRow_set h.own l8 _, by simpa using h.fp,
    (fun e => by cases e), (fun u' e => ?_), by simpa using h.hK, ?_, h.lt, h.ok.1, h.ok.2.1, h.ok.2.2.1, (fun u' e => by cases e; exact hv)⟩
  · cases e
    exact ⟨World.cell?_setCell_same' _ _ _ (by simp [hpc]), (c _ _ (by omega)).trans c0, (c _ _ (by omega)).trans c1, (c _ _ (by omega)).trans c2, hV, hne⟩
  · exact Below.setCell h.bel l4 _

theorem begF_le (c : List Vtx) : begF c ≤ c.length := by
  have := firstOn_le c
  unfold begF
  split <;> omega

set_option maxRecDepth 100000 in
set_option maxHeartbeats 1600000 in
theorem segs_c (v : Value) (c : List Vtx) (w : World) (hc : VtxAt w v c) :
    Calls Try.prog 63 #[v] w fun r w' => (∃ u, r = .returned u ∧ w'.ownsRow w.heap.size 123 7 u (segsE c).length (sgCells (segsE c))) ∧ Below w.heap.size w w' := by
  obtain ⟨b, cap, a, rfl, hl, ha, hok, hE⟩ := hc
  have HO := Lib.hid hok
  clear hok
  by_cases hn : c.length = 0
  · have HN := Lib.hid (List.eq_nil_of_length_eq_zero hn)
    go_enter Try.func63, Try.ntmps63
    rw [HN.out]
    go_wp2_with fail
    go_ret
    refine ⟨⟨_, rfl, ?_⟩, (by repeat' (first | (with_reducible exact Below.refl _ _) | (with_reducible assumption) | (with_reducible refine below_drewN ?_ _) | (with_reducible refine Below.alloc ?_ ?_ _) | (with_reducible refine Below.drew ?_) | (with_reducible refine Below.setCell ?_ ?_ _) | (with_reducible refine below_var ?_ ?_ (by assumption)) | (with_reducible refine below_own' ?_ (by assumption) (by assumption) ?_ ?_) | go_size))⟩
    have e : segsE ([] : List Vtx) = [] := rfl
    rw [e]
    exact World.ownsRow_nil _ _ _ _
  have hane := ha (by intro e; rw [e] at hn; simp at hn)
  subst hane
  clear ha
  have hcl : 0 < c.length := by omega
  have HC := Lib.hid hcl
  have hmf : ∀ (fn : Fn) (first cap : Array Value) (w : World), (Instr.makeFunc fn first cap).run Try.prog w = .ok (.func fn first cap) w := fun _ _ _ _ => rfl
  go_enter Try.func63, Try.ntmps63
  go_upto_block 0 with fail
  go_cut [4] (fun s4 wx => s4 = (.int .i64 ((firstOn c : Nat))) ∧ Below w.heap.size w wx)
  case first =>
    go_wp2_with fail
    go_loopw [4] (fun k wr => ∃ i : Nat, i ≤ c.length ∧ k = (.int .i64 (i)) ∧ i ≤ firstOn c ∧ Below w.heap.size w wr) (fun k wr => c.length - (intOf k).toNat)
    case atStart => exact ⟨0, by omega, rfl, by omega, Below.refl _ _⟩
    case round =>
      obtain ⟨i, hi, rfl, hfo, hB⟩ := hrel
      have hz1 : w.heap.size ≤ wr.heap.size := hB.size
      have hle := firstOn_le c
      by_cases h : i < c.length
      · obtain ⟨vv, hei, hem⟩ := get_of_lt h
        obtain ⟨c0, c1, c2⟩ := hE.carry hB i vv hei
        by_cases hon : vv.on = true
        · have hEq := firstOn_on hei hon
          have HQ := Lib.hid (show firstOn c = i by omega)
          rw [hon] at c2
          clear hei hem
          go_wp2_with fail
          go_meet
          case rel => exact ⟨by rw [HQ.out], hB⟩
        · have hoff : vv.on = false := by simpa using hon
          have hEq := firstOn_off hei hoff hfo
          rw [hoff] at c2
          clear hei hem
          go_wp2_with fail
          go_roundw
          case rel => exact ⟨i + 1, by omega, by go_num, hEq, hB⟩
          case measure => simp [intOf]; omega
      · have HQ := Lib.hid (show firstOn c = i by omega)
        go_wp2_with fail
        go_meet
        case rel => exact ⟨by rw [HQ.out], hB⟩
  case rest =>
    obtain ⟨rfl, hB⟩ := hcut
    have hzc : w.heap.size ≤ wc.heap.size := hB.size
    obtain ⟨W1, hW1⟩ : ∃ W1, W1 = wc := ⟨_, rfl⟩
    subst hW1
    obtain ⟨m, hm⟩ : ∃ m, c.length = m + 1 := ⟨c.length - 1, by omega⟩
    obtain ⟨vl, hvl, hvlm⟩ := get_of_lt (show m < c.length by omega)
    obtain ⟨vf, hvf, hvfm⟩ := get_of_lt (show 0 < c.length by omega)
    obtain ⟨l0, l1, l2⟩ := hE.carry hB m vl hvl
    obtain ⟨f0, f1, f2⟩ := hE.carry hB 0 vf hvf
    have hm1 : IntKind.i64.wrap ((c.length : Int) - 1) = (m : Int) := (IntWalk.i64_in _ (by omega)).trans (by omega)
    have hm2 : (0 : Int) ≤ (m : Int) := by omega
    have hm3 : (m : Int) < (c.length : Int) := by omega
    have HM := Lib.hid hm
    clear hm
    have HVL := Lib.hid hvl
    have HVF := Lib.hid hvf
    have HVLM := Lib.hid (HO.out vl hvlm)
    have HVFM := Lib.hid (HO.out vf hvfm)
    clear hvl hvf hvlm hvfm
    go_upto_region 7 with fail
    go_cut [6] (fun s6 wx => ∃ H : Nat, s6 = .pointer (some ⟨H, 0, none⟩) ∧ wx.cell? ⟨H, 0, none⟩ = some (.int .i64 (vl.x + vf.x)) ∧ wx.cell? ⟨H, 1, none⟩ = some (.int .i64 (vl.y + vf.y)) ∧ wx.frozen? ⟨H, 0, none⟩ = false ∧ wx.frozen? ⟨H, 1, none⟩ = false ∧ W1.heap.size ≤ H ∧ Below W1.heap.size W1 wx)
    case first =>
      have HS : Hid (∀ w', Below (W1.heap.size) W1 w' → (Below (W1.heap.size) W1 w' ∧ w'.cell? ⟨b, m * 3, none⟩ = some ((.int .i64 (vl.x))) ∧ w'.cell? ⟨b, m * 3 + 1, none⟩ = some ((.int .i64 (vl.y))) ∧ w'.cell? ⟨b, m * 3 + 2, none⟩ = some (.bool vl.on) ∧ w'.cell? ⟨b, 0, none⟩ = some ((.int .i64 (vf.x))) ∧ w'.cell? ⟨b, 1, none⟩ = some ((.int .i64 (vf.y))) ∧ w'.cell? ⟨b, 2, none⟩ = some (.bool vf.on))) := fun w' h => ⟨h, (h.cell (p := ⟨b, m * 3, none⟩) (by first | exact World.block_lt_of_cell? W1 _ (show W1.cell? ⟨b, m * 3, none⟩ = some ((.int .i64 (vl.x))) by assumption) | go_size)).trans (by assumption), (h.cell (p := ⟨b, m * 3 + 1, none⟩) (by first | exact World.block_lt_of_cell? W1 _ (show W1.cell? ⟨b, m * 3 + 1, none⟩ = some ((.int .i64 (vl.y))) by assumption) | go_size)).trans (by assumption), (h.cell (p := ⟨b, m * 3 + 2, none⟩) (by first | exact World.block_lt_of_cell? W1 _ (show W1.cell? ⟨b, m * 3 + 2, none⟩ = some (.bool vl.on) by assumption) | go_size)).trans (by assumption), (h.cell (p := ⟨b, 0, none⟩) (by first | exact World.block_lt_of_cell? W1 _ (show W1.cell? ⟨b, 0, none⟩ = some ((.int .i64 (vf.x))) by assumption) | go_size)).trans (by assumption), (h.cell (p := ⟨b, 1, none⟩) (by first | exact World.block_lt_of_cell? W1 _ (show W1.cell? ⟨b, 1, none⟩ = some ((.int .i64 (vf.y))) by assumption) | go_size)).trans (by assumption), (h.cell (p := ⟨b, 2, none⟩) (by first | exact World.block_lt_of_cell? W1 _ (show W1.cell? ⟨b, 2, none⟩ = some (.bool vf.on) by assumption) | go_size)).trans (by assumption)⟩
      go_region_held3 (fun w' => Below (W1.heap.size) W1 w' ∧ w'.cell? ⟨b, m * 3, none⟩ = some ((.int .i64 (vl.x))) ∧ w'.cell? ⟨b, m * 3 + 1, none⟩ = some ((.int .i64 (vl.y))) ∧ w'.cell? ⟨b, m * 3 + 2, none⟩ = some (.bool vl.on) ∧ w'.cell? ⟨b, 0, none⟩ = some ((.int .i64 (vf.x))) ∧ w'.cell? ⟨b, 1, none⟩ = some ((.int .i64 (vf.y))) ∧ w'.cell? ⟨b, 2, none⟩ = some (.bool vf.on)) (exact HS.out _ (by repeat' (first | (with_reducible exact Below.refl _ _) | (with_reducible assumption) | (with_reducible refine below_drewN ?_ _) | (with_reducible refine Below.alloc ?_ ?_ _) | (with_reducible refine Below.drew ?_) | (with_reducible refine Below.setCell ?_ ?_ _) | (with_reducible refine below_var ?_ ?_ (by assumption)) | (with_reducible refine below_own' ?_ (by assumption) (by assumption) ?_ ?_) | go_size))) (first | (go_at_call 75; refine (half_c vl vf _ HVLM.out HVFM.out).mono ?_; rintro e w' ⟨rfl, hb⟩; obtain ⟨hc, hf, hs⟩ := bcell3 hb; have hz := hb.size; (try simp only [World.size_alloc, World.size_setCell, World.size_drew, World.heap_drewN] at hz); (try have hq0 : W1.heap.size < w'.heap.size := by omega); (try have hq1 : W1.heap.size + 1 < w'.heap.size := by omega)))
      clear HS
      all_goals
        go_wp2_with fail
        go_meet
        case rel => exact ⟨_, rfl, by go_simp, by go_simp, by go_simp, by go_simp, by go_size, (by repeat' (first | (with_reducible exact Below.refl _ _) | (with_reducible assumption) | (with_reducible refine below_drewN ?_ _) | (with_reducible refine Below.alloc ?_ ?_ _) | (with_reducible refine Below.drew ?_) | (with_reducible refine Below.setCell ?_ ?_ _) | (with_reducible refine below_var ?_ ?_ (by assumption)) | (with_reducible refine below_own' ?_ (by assumption) (by assumption) ?_ ?_) | go_size))⟩
    case rest =>
      obtain ⟨W2, hW2⟩ : ∃ W2, W2 = wc := ⟨_, rfl⟩
      subst hW2
      obtain ⟨H, rfl, t0, t1, q0, q1, hH, hB2⟩ := hcut
      have hz2 : W1.heap.size ≤ W2.heap.size := hB2.size
      have HB2 : Below w.heap.size w W2 := hB.trans (hB2.mono (by omega))
      clear l0 l1 l2 f0 f1 f2 hm1 hm2 hm3
      have hle := firstOn_le c
      go_upto_if 42 with fail
      go_cut [4, 5] (fun s4 s5 wx => s4 = (.int .i64 ((begF c : Nat))) ∧ s5 = (.int .i64 ((begN c : Nat))) ∧ wx.cell? ⟨H, 0, none⟩ = some (.int .i64 ((begSt c).hx)) ∧ wx.cell? ⟨H, 1, none⟩ = some (.int .i64 ((begSt c).hy)) ∧ wx.frozen? ⟨H, 0, none⟩ = false ∧ wx.frozen? ⟨H, 1, none⟩ = false ∧ Below w.heap.size w wx)
      case first =>
        by_cases hf : firstOn c < c.length
        · obtain ⟨va, hva, hvam⟩ := get_of_lt hf
          obtain ⟨l0, l1, l2⟩ := (hE.carry HB2) (firstOn c) va hva
          have HA := Lib.hid (HO.out va hvam)
          have HF := Lib.hid (show begF c = firstOn c + 1 by unfold begF; rw [if_pos hf])
          have HN' := Lib.hid (show begN c = c.length - 1 by unfold begN; rw [if_pos hf])
          have HS := Lib.hid (show begSt c = ⟨[], 2 * va.x, 2 * va.y, none⟩ by unfold begSt; rw [if_pos hf]; have e : vAt c (firstOn c) = va := by { unfold vAt; rw [Nat.mod_eq_of_lt hf, hva]; rfl }; rw [e])
          clear hva hvam
          go_wp2_with fail
          go_call at_c va _ HA.out as r w3 ⟨rfl, hb3⟩
          replace q0 := (hb3.frozen (World.block_lt_of_cell? _ _ t0)).trans q0
          replace q1 := (hb3.frozen (World.block_lt_of_cell? _ _ t1)).trans q1
          replace t0 := (hb3.cell (World.block_lt_of_cell? _ _ t0)).trans t0
          replace t1 := (hb3.cell (World.block_lt_of_cell? _ _ t1)).trans t1
          go_wp2_with fail
          go_meet
          case rel => exact ⟨by rw [HF.out]; go_num, by rw [HN'.out]; go_num, by rw [HS.out]; go_simp, by rw [HS.out]; go_simp, by go_simp, by go_simp, (by repeat' (first | (with_reducible exact Below.refl _ _) | (with_reducible assumption) | (with_reducible refine below_drewN ?_ _) | (with_reducible refine Below.alloc ?_ ?_ _) | (with_reducible refine Below.drew ?_) | (with_reducible refine Below.setCell ?_ ?_ _) | (with_reducible refine below_var ?_ ?_ (by assumption)) | (with_reducible refine below_own' ?_ (by assumption) (by assumption) ?_ ?_) | go_size))⟩
        · have HF := Lib.hid (show begF c = firstOn c by unfold begF; rw [if_neg hf])
          have HN' := Lib.hid (show begN c = c.length by unfold begN; rw [if_neg hf])
          have HS := Lib.hid (show begSt c = ⟨[], vl.x + vf.x, vl.y + vf.y, none⟩ by
            unfold begSt
            rw [if_neg hf]
            have e : vAt c (c.length - 1) = vl := by unfold vAt; rw [Nat.mod_eq_of_lt (by omega), show c.length - 1 = m by have := HM.out; omega, HVL.out]; rfl
            have e' : vAt c 0 = vf := by unfold vAt; rw [Nat.mod_eq_of_lt (by omega), HVF.out]; rfl
            rw [e, e'])
          have HLE := Lib.hid hle
          clear hle hmf
          go_wp2_with fail
          go_meet
          case rel => exact ⟨by rw [HF.out], by rw [HN'.out], by rw [HS.out]; exact t0, by rw [HS.out]; exact t1, q0, q1, HB2⟩
      case rest =>
        obtain ⟨rfl, rfl, t0, t1, q0, q1, HB3⟩ := hcut
        obtain ⟨W3, hW3⟩ : ∃ W3, W3 = wc := ⟨_, rfl⟩
        subst hW3
        have nH := blt t0
        have HNL := Lib.hid (begN_le c)
        clear hle hB2 HB2 hz2 hB
        go_wp2_with fail
        refine wp_gen ?_
        intro W hW
        have hPM : PM w W (W3.heap.size + 1 + 1 + 1) H W3.heap.size (W3.heap.size + 1) (W3.heap.size + 1 + 1) 0 (begSt c).hx (begSt c).hy (begSt c) (.slice none 0 0) := by
          have hsg : (begSt c).segs = [] := by unfold begSt; split <;> rfl
          have hpl : (begSt c).pull = none := by unfold begSt; split <;> rfl
          have hz3 := HB3.size
          have n1 : H < W3.heap.size + 1 := by omega
          have n2 : H < W3.heap.size + 1 + 1 := by omega
          subst hW
          refine ⟨by go_simp, by go_simp, by go_simp, by go_simp, by go_simp, by go_simp, by go_simp, by go_simp, by rw [hsg]; exact World.ownsRow_nil _ _ _ _, by go_simp, fun _ => by go_simp, (fun v e => by rw [hpl] at e; cases e), by simp, (by repeat' (first | (with_reducible exact Below.refl _ _) | (with_reducible assumption) | (with_reducible refine below_drewN ?_ _) | (with_reducible refine Below.alloc ?_ ?_ _) | (with_reducible refine Below.drew ?_) | (with_reducible refine Below.setCell ?_ ?_ _) | (with_reducible refine below_var ?_ ?_ (by assumption)) | (with_reducible refine below_own' ?_ (by assumption) (by assumption) ?_ ?_) | go_size)), ⟨by omega, by omega, by omega, by omega, by omega, by omega, by omega, by omega, by omega, by omega, by omega, by omega, by omega, by omega⟩, begSt_ok HC.out HO.out⟩
        clear hW t0 t1 q0 q1 HB3
        go_loopw [55] (fun k wr => ∃ (i V : Nat) (u : Value), i ≤ begN c ∧ k = (.int .i64 (i)) ∧ PM w wr (W3.heap.size + 1 + 1 + 1) H W3.heap.size (W3.heap.size + 1) (W3.heap.size + 1 + 1) V (begSt c).hx (begSt c).hy (stTo c i) u) (fun k wr => begN c - (intOf k).toNat)
        case atStart => exact ⟨0, 0, _, by omega, rfl, hPM⟩
        case round =>
          clear hPM
          obtain ⟨i, V, u, hi, rfl, hP⟩ := hrel
          have HP := Lib.hid hP
          by_cases h : i < begN c
          · obtain ⟨hva, hvam⟩ := vAt_mem HC.out (begF c + i)
            obtain ⟨va, eva⟩ : ∃ va, va = vAt c (begF c + i) := ⟨_, rfl⟩
            rw [← eva] at hva hvam
            obtain ⟨l0, l1, l2⟩ := (hE.carry hP.bel) _ va hva
            have ej : (wrap64 ((begF c : Int) + (i : Int))).tmod (c.length : Int) = (((begF c + i) % c.length : Nat) : Int) := by
              have hbf := begF_le c
              have hbn := HNL.out
              rw [← IntWalk.i64_left, IntWalk.i64_in _ (by omega), show (begF c : Int) + (i : Int) = ((begF c + i : Nat) : Int) by omega, ← Int.ofNat_tmod]
            have hjlt : (begF c + i) % c.length < c.length := Nat.mod_lt _ HC.out
            obtain ⟨j, hj⟩ : ∃ j, j = (begF c + i) % c.length := ⟨_, rfl⟩
            rw [← hj] at ej hjlt l0 l1 l2
            clear hj
            have EVA := Lib.hid eva
            have HVA := Lib.hid (HO.out va hvam)
            clear eva hva hvam hP
            have hle2 := HNL.out
            have hsl := stTo_len c i
            have hcl9 : c.length ≤ 900 := hl
            obtain ⟨s, hs⟩ : ∃ s, s = stTo c i := ⟨_, rfl⟩
            rw [← hs] at HP hsl
            have HS := Lib.hid hs
            have HSL := Lib.hid (show s.segs.length ≤ 1000 by omega)
            have EV2 := Lib.hid (show stTo c (i + 1) = s.step va by rw [hs, EVA.out]; rfl)
            clear hs hsl hcl9
            go_upto_region 21 with fail
            refine wp_gen ?_
            intro W4 hW4
            have hPM4 := HP.out.below (w1 := W4) (by rw [← hW4]; exact (by repeat' (first | (with_reducible exact Below.refl _ _) | (with_reducible assumption) | (with_reducible refine below_drewN ?_ _) | (with_reducible refine Below.alloc ?_ ?_ _) | (with_reducible refine Below.drew ?_) | (with_reducible refine Below.setCell ?_ ?_ _) | (with_reducible refine below_var ?_ ?_ (by assumption)) | (with_reducible refine below_own' ?_ (by assumption) (by assumption) ?_ ?_) | go_size)))
            have v0 : W4.cell? ⟨wr.heap.size, 0, none⟩ = some (.int .i64 (va.x)) := by rw [← hW4]; simp [go_sem]
            have v1 : W4.cell? ⟨wr.heap.size, 1, none⟩ = some (.int .i64 (va.y)) := by rw [← hW4]; simp [go_sem]
            have v2 : W4.cell? ⟨wr.heap.size, 2, none⟩ = some (.bool va.on) := by rw [← hW4]; simp [go_sem]
            have hne : u.ownBlock ≠ some wr.heap.size := own_ne HP.out.own (.inr (Nat.le_refl _))
            have hKV : W3.heap.size + 1 + 1 + 1 ≤ wr.heap.size := HP.out.hK
            have nV := blt v0
            clear hW4 l0 l1 l2 ej hjlt
            have HP4 := Lib.hid hPM4
            clear hPM4 HP
            have HNE := Lib.hid hne
            clear hne
            by_cases hon : va.on = true
            · rw [hon] at v2
              have HON := Lib.hid hon
              go_wp2_with fail
              go_call at_c ⟨va.x, va.y, true⟩ _ (show Vtx.ok ⟨va.x, va.y, true⟩ from HVA.out) as r w5 ⟨rfl, hb5⟩
              have hP5 := HP4.out.below hb5
              clear v0 v1 v2
              go_wp2_with fail
              go_call end_c hP5 (2 * va.x) (2 * va.y) HSL.out (Vtx.two HVA.out).1 (Vtx.two HVA.out).2 as r w6 ⟨rfl, hblk, hsz, u', hP6, hu⟩
              clear hblk hsz hu hP5 hb5
              obtain ⟨xp, p0⟩ := hP6.pcell
              have p1 := hP6.fp
              have HP6 := Lib.hid hP6
              clear hP6
              go_wp2_with fail
              go_roundw
              case rel =>
                refine ⟨i + 1, V, u', by omega, by go_num, ?_⟩
                rw [EV2.out]
                have e : s.step va = { s.fin (2 * va.x) (2 * va.y) with pull := none } := by unfold St.step; rw [if_pos HON.out]
                rw [e]
                exact HP6.out.free
              case measure => simp [intOf]; omega
            · have hoff : va.on = false := by simpa using hon
              rw [hoff] at v2
              have HON := Lib.hid hon
              clear hon
              cases hpl : s.pull with
              | none =>
                have p0 := HP4.out.pn hpl
                have p1 := HP4.out.fp
                have HPL := Lib.hid hpl
                clear hpl
                go_wp2_with fail
                go_roundw
                case rel =>
                  refine ⟨i + 1, wr.heap.size, u, by omega, by go_num, ?_⟩
                  rw [EV2.out]
                  have e : s.step va = { s with pull := some va } := by unfold St.step; rw [if_neg HON.out, HPL.out]
                  rw [e]
                  exact HP4.out.catch _ va v0 v1 (by rw [v2, hoff]) hKV HNE.out HVA.out
                case measure => simp [intOf]; omega
              | some q =>
                obtain ⟨p0, q0, q1, q2, hVK, hVu⟩ := HP4.out.ps q hpl
                have HQ := Lib.hid (HP4.out.ok.2.2.2 q hpl)
                have HPL := Lib.hid hpl
                have HVU := Lib.hid hVu
                clear hpl hVu
                have nVq := blt q0
                have nP4 := blt p0
                go_upto_region 25 with fail
                go_region_held3 (fun w' => w'.cell? ⟨W3.heap.size + 1 + 1, 0, none⟩ = some (.pointer (some ⟨V, 0, none⟩)) ∧ w'.cell? ⟨V, 0, none⟩ = some (.int .i64 (q.x)) ∧ w'.cell? ⟨V, 1, none⟩ = some (.int .i64 (q.y)) ∧ w'.cell? ⟨V, 2, none⟩ = some (.bool q.on) ∧ w'.cell? ⟨wr.heap.size, 0, none⟩ = some (.int .i64 (va.x)) ∧ w'.cell? ⟨wr.heap.size, 1, none⟩ = some (.int .i64 (va.y)) ∧ w'.cell? ⟨wr.heap.size, 2, none⟩ = some (.bool false)) (go_keep) (first
                  | (go_at_call 75; refine (half_c q ⟨va.x, va.y, false⟩ _ HQ.out (show Vtx.ok ⟨va.x, va.y, false⟩ from HVA.out)).mono ?_; rintro e w5 ⟨rfl, hb⟩; have hP5 := (HP4.out.below (w1 := W4.drew) (by repeat' (first | (with_reducible exact Below.refl _ _) | (with_reducible assumption) | (with_reducible refine below_drewN ?_ _) | (with_reducible refine Below.alloc ?_ ?_ _) | (with_reducible refine Below.drew ?_) | (with_reducible refine Below.setCell ?_ ?_ _) | (with_reducible refine below_var ?_ ?_ (by assumption)) | (with_reducible refine below_own' ?_ (by assumption) (by assumption) ?_ ?_) | go_size))).below hb; obtain ⟨hc, hf, hs⟩ := bcell3 hb; have hz := hb.size; simp only [World.size_drew] at hz hc hf; have a0 : w5.cell? ⟨W3.heap.size + 1 + 1, 0, none⟩ = some (.pointer (some ⟨V, 0, none⟩)) := (hc _ _ nP4).trans p0; have a1 : w5.cell? ⟨V, 0, none⟩ = some (.int .i64 (q.x)) := (hc _ _ nVq).trans q0; have a2 : w5.cell? ⟨V, 1, none⟩ = some (.int .i64 (q.y)) := (hc _ _ nVq).trans q1; have a3 : w5.cell? ⟨V, 2, none⟩ = some (.bool q.on) := (hc _ _ nVq).trans q2; have a4 : w5.cell? ⟨wr.heap.size, 0, none⟩ = some (.int .i64 (va.x)) := (hc _ _ nV).trans v0; have a5 : w5.cell? ⟨wr.heap.size, 1, none⟩ = some (.int .i64 (va.y)) := (hc _ _ nV).trans v1; have a6 : w5.cell? ⟨wr.heap.size, 2, none⟩ = some (.bool false) := (hc _ _ nV).trans v2; have n5 : wr.heap.size < w5.heap.size := (by omega); have HP5 := Lib.hid hP5; clear hc hf hs hP5)
                  | (go_at_call 77; refine (end_c HP5.out (q.x + va.x) (q.y + va.y) HSL.out (Vtx.sum HQ.out HVA.out).1 (Vtx.sum HQ.out HVA.out).2).mono ?_; rintro e w6 ⟨rfl, hblk, hsz, u', hP6, hu⟩; obtain ⟨d0, d1, d2, d3, d4, d5⟩ := hP6.ps q HPL.out; have hbk := (hblk wr.heap.size hKV n5 HNE.out); have d6 : w6.cell? ⟨wr.heap.size, 0, none⟩ = some (.int .i64 (va.x)) := (World.cell?_of_block hbk).trans a4; have d7 : w6.cell? ⟨wr.heap.size, 1, none⟩ = some (.int .i64 (va.y)) := (World.cell?_of_block hbk).trans a5; have d8 : w6.cell? ⟨wr.heap.size, 2, none⟩ = some (.bool false) := (World.cell?_of_block hbk).trans a6; have HP6 := Lib.hid hP6; have HU := Lib.hid hu; clear hP6 hu hblk hbk d5))
                all_goals
                  have p1 := HP6.out.fp
                  have hne6 : u'.ownBlock ≠ some wr.heap.size := by
                    rcases HU.out with h8 | ⟨g, h8, h9⟩
                    · rw [h8]; exact HNE.out
                    · rw [h8]; intro e; cases e; omega
                  have HNE6 := Lib.hid hne6
                  clear hne6
                  go_wp2_with fail
                  go_roundw
                  case rel =>
                    refine ⟨i + 1, wr.heap.size, u', by omega, by go_num, ?_⟩
                    rw [EV2.out]
                    have e : s.step va = { s.fin (q.x + va.x) (q.y + va.y) with pull := some va } := by unfold St.step; rw [if_neg HON.out, HPL.out]
                    rw [e]
                    exact HP6.out.catch _ va d6 d7 (by rw [d8, hoff]) hKV HNE6.out HVA.out
                  case measure => simp [intOf]; omega
          · have HI := Lib.hid (show i = begN c by omega)
            have hgx := hP.gx
            have hgy := hP.gy
            have hlen := stTo_len c i
            have hbn := HNL.out
            have HSL := Lib.hid (show (stTo c i).segs.length ≤ 1000 by omega)
            have HOK := Lib.hid (begSt_ok HC.out HO.out)
            clear hlen hP
            go_wp2_with fail
            go_call end_c HP.out (begSt c).hx (begSt c).hy HSL.out HOK.out.2.1 HOK.out.2.2.1 as r w6 ⟨rfl, hblk, hsz, u', hP6, hu⟩
            clear hblk hsz hu
            have e1 := hP6.o
            have HP6 := Lib.hid hP6
            clear hP6
            go_wp2_with fail
            go_ret
            refine ⟨⟨_, rfl, ?_⟩, HP6.out.bel⟩
            have e : segsE c = ((stTo c i).fin (begSt c).hx (begSt c).hy).segs := by unfold segsE; rw [if_neg hn, HI.out]
            rw [e]
            exact own_down HP6.out.own (by have := HP6.out.lt; omega)

end Go.Proofs.Ytadohkidfkbncaa
