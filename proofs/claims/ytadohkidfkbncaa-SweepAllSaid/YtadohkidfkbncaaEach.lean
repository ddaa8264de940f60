/-
  The texels of a grid, gone over by a function: what it hands to each round.
-/
import Derived.Test.YtadohkidfkbncaaRnd
import Derived.Test.YtadohkidfkbncaaSwpA
import Derived.LoopNIn
import Derived.LoopIn
import Derived.Shelf.Abstract
namespace Go.Proofs.Ytadohkidfkbncaa
open Go.RowKit
set_option linter.unusedSimpArgs false
attribute [local go_sem] Oper.semAt_some

/-- A texel of a grid. -/
abbrev Tx (g : Grd) := { x : Int × Int // inG g x.1 x.2 }

def txOf {g : Grd} (hg : g.ok) (j : Nat) : Tx g :=
  if h : inG g ((j % g.w.toNat : Nat) : Int) ((j / g.w.toNat : Nat) : Int) then ⟨(((j % g.w.toNat : Nat) : Int), ((j / g.w.toNat : Nat) : Int)), h⟩
  else ⟨(0, 0), by obtain ⟨_, _, _, ⟨a, _⟩, ⟨b, _⟩, _⟩ := hg; exact ⟨by decide, by decide, by show (0 : Int) < _; omega, by show (0 : Int) < _; omega⟩⟩

theorem txOf_at {g : Grd} (hg : g.ok) {i k : Nat} (hi : (i : Int) < g.w) (hk : (k : Int) < g.h) : (txOf hg (k * g.w.toNat + i)).1 = ((i : Int), (k : Int)) := by
  have hw : 0 < g.w.toNat := by omega
  have h1 : (k * g.w.toNat + i) % g.w.toNat = i := by rw [Nat.mul_add_mod_self_right]; exact Nat.mod_eq_of_lt (by omega)
  have h2 : (k * g.w.toNat + i) / g.w.toNat = k := by
    rw [Nat.add_comm, Nat.add_mul_div_right _ _ hw, Nat.div_eq_of_lt (by omega)]; omega
  unfold txOf
  rw [dif_pos (by rw [h1, h2]; exact ⟨by omega, by omega, hi, hk⟩)]
  simp only [h1, h2]

def txTo {g : Grd} (hg : g.ok) (n : Nat) : List (Tx g) := (List.range n).map (txOf hg)
theorem txTo_succ {g : Grd} (hg : g.ok) (n : Nat) : txTo hg (n + 1) = txTo hg n ++ [txOf hg n] := by simp [txTo, List.range_succ]
theorem txTo_len {g : Grd} (hg : g.ok) (n : Nat) : (txTo hg n).length = n := by simp [txTo]

/-- How many there are. -/
def txN (g : Grd) : Nat := g.h.toNat * g.w.toNat

theorem tx_lt {g : Grd} {i k : Nat} (hi : (i : Int) < g.w) (hk : (k : Int) < g.h) : k * g.w.toNat + i < txN g := by
  unfold txN
  have h1 : k + 1 ≤ g.h.toNat := by omega
  have h2 := Nat.mul_le_mul_right g.w.toNat h1
  rw [Nat.add_mul, Nat.one_mul] at h2
  omega

/-- A block's cells stand. -/
def KG (G : Nat) (W W' : World) : Prop := ∀ o, W'.cell? ⟨G, o, none⟩ = W.cell? ⟨G, o, none⟩
theorem KG.refl (G : Nat) (W : World) : KG G W W := fun _ => rfl
theorem KG.trans {G : Nat} {A B C : World} (h : KG G A B) (k : KG G B C) : KG G A C := fun o => (k o).trans (h o)
theorem KG.below {G K : Nat} {A B : World} (h : Below K A B) (hG : G < K) : KG G A B := fun o => h.cell (p := ⟨G, o, none⟩) hG
theorem KG.putObj {G : Nat} {w : World} (hG : G < w.heap.size) (W : World) (l : Nat) (o o' : Obj) (hl : w.heap.size ≤ l) (_ : W.heap[l]? = some o) (_ : o.isCells = false) (_ : o.isWalk = false) : KG G W (W.putObj l o') :=
  fun k => World.cell?_of_block (World.putObj_heap_other (fun e => by have e : G = l := e; omega))

set_option maxRecDepth 100000 in
set_option maxHeartbeats 2000000 in
theorem each1_in {g : Grd} (hg : g.ok) (n : Nat) (l G : Nat) (J Jx : List (Tx g) → World → Prop)
    (hY : ∀ pre x W, J pre W → pre.length < txN g → YieldAt Fence.wide (n - 1) Try.prog l #[(.int .i64 (x.1.1)), (.int .i64 (x.1.2))] W fun e W' =>
      (e = .returned (.bool true) ∧ J (pre ++ [x]) W' ∧ KG G W W') ∨ (e = .returned (.bool false) ∧ Jx (pre ++ [x]) W'))
    (W : World) (h3 : W.cell? ⟨G, 3, none⟩ = some (.int .i64 (g.w))) (h4 : W.cell? ⟨G, 4, none⟩ = some (.int .i64 (g.h))) (h0 : J [] W) :
    CallsIn Fence.wide n Try.prog 53 #[.func (.yield l) #[] #[], .pointer (some ⟨G, 0, none⟩)] W fun e W' => (∃ v, e = .returned v) ∧
      ((∃ ys, ys = txTo hg (txN g) ∧ J ys W') ∨ (∃ pre, True ∧ Jx pre W')) := by
  obtain ⟨w1, w2⟩ := hg.2.2.2.1
  obtain ⟨k1, k2⟩ := hg.2.2.2.2.1
  refine callsIn_of_wp Try.func53 rfl trivial ?_ rfl
  simp only [Try.ntmps53, List.size_toArray, List.length_cons, List.length_nil, Nat.reduceAdd, Nat.reduceSub, Array.replicate_succ, Array.replicate_zero, List.push_toArray, List.append_toArray, List.nil_append, List.cons_append]
  refine wpIn_scope ?_
  gi_wp2
  refine wpIn_label ?_
  gi_wp2
  gi_loopw [3] (fun kk wr => ∃ k : Nat, (k : Int) ≤ g.h ∧ kk = (.int .i64 (k)) ∧ J (txTo hg (k * g.w.toNat)) wr ∧ KG G W wr) (fun kk _ => (g.h - intOf kk).toNat)
  case atStart => exact ⟨0, by omega, rfl, by simpa [txTo] using h0, KG.refl _ _⟩
  case round =>
    obtain ⟨k, hk, rfl, hJ, hB⟩ := hrel
    obtain ⟨Wk, hWk⟩ : ∃ Wk, Wk = wr := ⟨_, rfl⟩
    subst hWk
    have d3 := (hB 3).trans h3
    have d4 := (hB 4).trans h4
    by_cases hlk : (k : Int) < g.h
    · gi_wp2
      gi_loopw [4] (fun ii wr => ∃ i : Nat, (i : Int) ≤ g.w ∧ ii = (.int .i64 (i)) ∧ J (txTo hg (k * g.w.toNat + i)) wr ∧ KG G W wr) (fun ii _ => (g.w - intOf ii).toNat)
      case atStart => exact ⟨0, by omega, rfl, hJ, hB⟩
      case round =>
        clear hJ hB d3 d4
        obtain ⟨i, hi, rfl, hJ, hB⟩ := hrel
        have d3 := (hB 3).trans h3
        have d4 := (hB 4).trans h4
        by_cases hli : (i : Int) < g.w
        · obtain ⟨fn, tmps, assign, body, hy, hR⟩ := hY _ (txOf hg (k * g.w.toNat + i)) wr hJ (by rw [txTo_len]; exact tx_lt hli hlk)
          rw [txOf_at hg hli hlk] at hy
          dsimp only at hy
          gi_wp2
          refine ⟨fun h => by simp [Fence.wide] at h, ?_⟩
          refine hR.mono ?_
          rintro e W3 (⟨rfl, hJ3, hk3⟩ | ⟨rfl, hJx3⟩)
          · gi_wp2
            go_roundw
            case rel => exact ⟨i + 1, by omega, by go_num, by rw [← Nat.add_assoc, txTo_succ]; exact hJ3, hB.trans hk3⟩
            case measure => simp [intOf]; omega
          · gi_wp2
            rw [Exit.noGoto_normal]
            refine bodyPost_end (results_none rfl _ _ _) rfl ?_
            exact ⟨⟨_, rfl⟩, .inr ⟨_, trivial, hJx3⟩⟩
        · have hiw : i = g.w.toNat := by omega
          rw [hiw, ← Nat.succ_mul] at hJ
          clear hiw
          gi_wp2
          go_roundw
          case rel => exact ⟨k + 1, by omega, by go_num, hJ, hB⟩
          case measure => simp [intOf]; omega
    · have hkh : k = g.h.toNat := by omega
      rw [hkh] at hJ
      clear hkh
      gi_wp2
      refine bodyPost_end (results_none rfl _ _ _) rfl ?_
      exact ⟨⟨_, rfl⟩, .inl hJ⟩

theorem each_stops {g : Grd} (hg : g.ok) (n : Nat) (G : Nat) (w : World) (hG : G < w.heap.size) (h3 : w.cell? ⟨G, 3, none⟩ = some (.int .i64 (g.w))) (h4 : w.cell? ⟨G, 4, none⟩ = some (.int .i64 (g.h))) :
    SeqStopsK Fence.wide n Try.prog 53 #[.pointer (some ⟨G, 0, none⟩)] (fun x : Tx g => #[(.int .i64 (x.1.1)), (.int .i64 (x.1.2))]) (KG G) (fun ys => ys = txTo hg (txN g)) (fun _ => True) (txN g) w := fun l J Jx W hW _ _ hY h0 =>
  each1_in hg n l G J Jx hY W ((hW.cell (p := ⟨G, 3, none⟩) hG).trans h3) ((hW.cell (p := ⟨G, 4, none⟩) hG).trans h4) h0

theorem txN_le {g : Grd} (hg : g.ok) : txN g ≤ 576 := by
  obtain ⟨_, _, _, ⟨_, a⟩, ⟨_, b⟩, _⟩ := hg
  exact Nat.mul_le_mul (show g.h.toNat ≤ 24 by omega) (show g.w.toNat ≤ 24 by omega)

theorem keeps_turn {W W5 wa : World} {row : Option Nat} {F o : Nat} {K : Nat} {v x : Value} (hb : Below W.heap.size W W5) (hg : W5.grownBy wa row) (hr : ∀ r, row = some r → ∃ cs t fr, W5.heap[r]? = some (.cells cs t fr)) (hF : wa.cell? ⟨F, o, none⟩ = some v) : KeepsFrom K W (wa.setCell ⟨F, o, none⟩ x) := by
  have hz := Nat.le_trans hb.size hg.size
  refine ⟨by simpa using hz, fun k ob _ hk hc => ?_⟩
  have hkl := (Array.getElem?_eq_some_iff.1 hk).1
  have h5 := (hb.block k hkl).trans hk
  have h6 : wa.heap[k]? = some ob := (hg.block k (Nat.lt_of_lt_of_le hkl hb.size) fun e => by
    obtain ⟨cs, t, fr, he⟩ := hr k e.symm
    rw [h5] at he
    cases he
    simp [Obj.isCells] at hc).trans h5
  refine (heap_setCell_other wa _ k x fun e => ?_).trans h6
  have hf := hF
  unfold World.cell? at hf
  rw [← e, h6] at hf
  cases ob <;> simp_all [Obj.isCells]

/-- A range over a grid's texels. -/
theorem wp_each {g : Grd} (hg : g.ok) {gop : Operand} {p q : Tmp} {assign body : Code} {Q : Exit → Act → World → Prop} {a : Act} {w : World} {G : Nat}
    (hgv : a.eval gop = .func (.func 53) #[] #[.pointer (some ⟨G, 0, none⟩)]) (h3 : w.cell? ⟨G, 3, none⟩ = some (.int .i64 (g.w))) (h4 : w.cell? ⟨G, 4, none⟩ = some (.int .i64 (g.h)))
    (I : List (Tx g) → World → Prop) (hI : OwnFrom w.heap.size I) (h0 : I [] w) (a₁ : Tx g → Act)
    (hassign : ∀ (l : Nat) (x : Tx g) (W : World) (K : Act → World → Prop), K (a₁ x) W →
      assign.wpIn (rnd l) 1 Try.prog (Exit.then K (fun _ _ _ => False)) { tmps := (a.tmps.setIfInBounds p (.int .i64 (x.1.1))).setIfInBounds q (.int .i64 (x.1.2)), defers := [] } W)
    (hbody : ∀ (l : Nat) (pre : List (Tx g)) (x : Tx g) (W : World), I pre W → pre.length < txN g → body.wpIn (rnd l) 1 Try.prog (ownPostG w.heap.size (KG G) I (fun _ _ _ => False) (pre ++ [x]) W) (a₁ x) W)
    (hdone : ∀ (D : Nat) (W : World), w.heap.size ≤ D → I (txTo hg (txN g)) W → W.heap[D]? = some (.deferred (some [])) → Q .normal { a with defers := { target := .collected D, args := #[] } :: a.defers } W) :
    (Code.rangeFunc gop #[p, q] assign body).wp Try.prog Q a w := by
  have hG : G < w.heap.size := blt h3
  refine (wpIn_wide (n := 3)).1 ?_
  refine wpIn_rangeFunc_ownG (F := Fence.wide) rfl (by omega) hgv trivial (enters_of Try.func53 (by kernel_rfl) rfl) (each_stops hg 2 G w hG h3 h4) KG.trans (KG.putObj hG) (Below.refl _ _) (fun _ => rfl)
    I (fun _ _ _ => False) hI (fun _ _ _ _ _ h _ _ => h) h0 a₁ (fun l x W K hK => ?_) (fun l pre x W hi hl => hbody l pre x W hi hl) (fun D xs W hD hS hi hK => ?_) (fun _ _ _ _ _ _ h _ => h.elim)
  · have := hassign l x W K hK
    simpa [rnd] using this
  · subst hS
    exact hdone D W hD hi hK

/-- A function that ranges over functions. -/
theorem calls_of_marks {f : FuncId} {fn : Func} {c : Code} {args : Array Value} {w : World} {R : Ending → World → Prop} (hf : Try.prog.funcs[f]? = some fn) (hb : fn.body = some c)
    (h : c.wp Try.prog (bodyPostM Fence.wide 3 Try.prog fn R) { tmps := args ++ Array.replicate (fn.ntmps - args.size) undef, defers := [] } w) : Calls Try.prog f args w R :=
  callsIn_wide.1 (callsIn_of_wp_marks (n := 3) hf hb trivial ((wpIn_wide (n := 3)).2 h) rfl)

/-- The iterator: the grid in a box. -/
theorem each_c (g : Grd) (w : World) :
    Calls Try.prog 25 #[.agg #[(.int .i64 (g.x)), (.int .i64 (g.y)), (.int .i64 (g.p)), (.int .i64 (g.w)), (.int .i64 (g.h)), (.int .i64 (g.s))]] w fun r w' => r = .returned (.func (.func 53) #[] #[.pointer (some ⟨w.heap.size, 0, none⟩)]) ∧ w' = w.alloc (.cells #[(.int .i64 (g.x)), (.int .i64 (g.y)), (.int .i64 (g.p)), (.int .i64 (g.w)), (.int .i64 (g.h)), (.int .i64 (g.s))] 29) := by
  have hmf : ∀ (fn : Fn) (first cap : Array Value) (w : World), (Instr.makeFunc fn first cap).run Try.prog w = .ok (.func fn first cap) w := fun _ _ _ _ => rfl
  go_enter Try.func25, Try.ntmps25
  go_wp2_with fail
  go_ret
  exact ⟨rfl, rfl⟩

end Go.Proofs.Ytadohkidfkbncaa
