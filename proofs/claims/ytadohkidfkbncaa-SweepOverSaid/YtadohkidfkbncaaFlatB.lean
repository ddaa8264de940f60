/-
  The walks of flat: a piece that is put, pieces.
-/
import Derived.Test.YtadohkidfkbncaaFlatA
import Derived.Test.YtadohkidfkbncaaPathB
namespace Go.Proofs.Ytadohkidfkbncaa
open Go.RowKit
set_option linter.unusedSimpArgs false

theorem info_edge : (Try.prog.info? 41).map (fun i => (i.zero, i.size, i.bytes)) = some (some (.agg #[(.int .i64 (0)), (.int .i64 (0)), (.int .i64 (0)), (.int .i64 (0))]), 4, 32) := by kernel_rfl
theorem build_edge (a b c d : Value) (w : World) : (Instr.build 41 #[(0, .agg #[a, b]), (1, .agg #[c, d])]).run Try.prog w = .ok (.agg #[a, b, c, d]) w := by kernel_rfl
theorem slice_edge (a b c d : Value) (w : World) : (Instr.buildSlice 26 1 #[(0, .agg #[a, b, c, d])]).run Try.prog w = .ok (.slice (some ⟨w.heap.size, 0, none⟩) 1 1) (w.alloc (.cells #[a, b, c, d] 41)) := by kernel_rfl

def Edg.cells (e : Edg) : List Value := [(.int .i64 (e.ax)), (.int .i64 (e.ay)), (.int .i64 (e.bx)), (.int .i64 (e.bz))]
def edCells (l : List Edg) : List Value := l.flatMap Edg.cells
theorem edCells_snoc (l : List Edg) (g : Edg) : edCells (l ++ [g]) = edCells l ++ g.cells := by simp [edCells]
theorem edCells_one (l : List Edg) : ∀ u ∈ edCells l, u.oneCell' = true := by
  intro u hu
  obtain ⟨g, _, h⟩ := List.mem_flatMap.1 hu
  simp only [Edg.cells, List.mem_cons, List.not_mem_nil, or_false] at h
  rcases h with rfl | rfl | rfl | rfl <;> rfl
theorem news_edge (w : World) (g : Edg) : ∀ j u, g.cells[j]? = some u → (w.alloc (.cells #[(.int .i64 (g.ax)), (.int .i64 (g.ay)), (.int .i64 (g.bx)), (.int .i64 (g.bz))] 41)).cell? ((⟨w.heap.size, 0, none⟩ : Addr).add j) = some u := by
  intro j x hx
  refine World.news_of_block (cs := g.cells.toArray) (t := 41) (fr := (0, 0)) ?_ j x (by simpa using hx)
  have hn := heap_alloc_new w (.cells g.cells.toArray 41)
  simpa [Edg.cells] using hn

/-- What is gathered. -/
structure EM (w0 w : World) (K O : Nat) (es : List Edg) (u : Value) : Prop where
  o : w.cell? ⟨O, 0, none⟩ = some u
  fo : w.frozen? ⟨O, 0, none⟩ = false
  own : w.ownsRow K 41 4 u es.length (edCells es)
  hK : K ≤ w.heap.size
  bel : Below w0.heap.size w0 w
  lt : w0.heap.size ≤ O ∧ O < K
  ok : ∀ e ∈ es, e.ok

theorem EM.below {w0 w w1 : World} {K O : Nat} {es : List Edg} {u : Value} (h : EM w0 w K O es u) (hb : Below w.heap.size w w1) : EM w0 w1 K O es u :=
  ⟨(hb.cell (p := ⟨O, 0, none⟩) (blt h.o)).trans h.o, (hb.frozen (p := ⟨O, 0, none⟩) (blt h.o)).trans h.fo, ownsRow_below h.own hb, Nat.le_trans h.hK hb.size, h.bel.trans (hb.mono h.bel.size), h.lt, h.ok⟩

def putE (es : List Edg) (ax ay bx bz : Int) : List Edg := if ax = bx ∧ ay = bz then es else es ++ [⟨ax, ay, bx, bz⟩]

set_option maxRecDepth 20000 in
set_option maxHeartbeats 1600000 in
theorem put_c {w0 w : World} {K O : Nat} {es : List Edg} {u : Value} (h : EM w0 w K O es u) (ax ay bx bz : Int) (hl : es.length ≤ 100000) (hok : Edg.ok ⟨ax, ay, bx, bz⟩) :
    Calls Try.prog 70 #[.agg #[(.int .i64 (ax)), (.int .i64 (ay))], .agg #[(.int .i64 (bx)), (.int .i64 (bz))], .pointer (some ⟨O, 0, none⟩)] w fun r w' =>
      r = .returned (.tuple #[]) ∧ (∀ b, K ≤ b → b < w.heap.size → u.ownBlock ≠ some b → w'.heap[b]? = w.heap[b]?) ∧ w.heap.size ≤ w'.heap.size ∧ (∃ u', EM w0 w' K O (putE es ax ay bx bz) u' ∧ (u'.ownBlock = u.ownBlock ∨ ∃ g, u'.ownBlock = some g ∧ w.heap.size ≤ g)) := by
  have HE := Lib.hid h
  have HL := Lib.hid hl
  have HOK := Lib.hid hok
  have ho := h.o
  have fo := h.fo
  have nO := blt ho
  obtain ⟨i0, hi, hz0, hz1, hz2⟩ := info_parts info_edge
  clear h hl hok
  by_cases he : ax = bx ∧ ay = bz
  · have HP := Lib.hid (show putE es ax ay bx bz = es from if_pos he)
    obtain ⟨rfl, rfl⟩ := he
    go_enter Try.func70, Try.ntmps70
    go_wp2_with fail
    refine bodyPost_end (results_none rfl _ _ _) rfl ?_
    refine ⟨rfl, ?_, ?_, u, ?_, .inl rfl⟩
    · intro b h1 h2 h3
      exact (show Below w.heap.size w _ from (by repeat' (first | (with_reducible exact Below.refl _ _) | (with_reducible assumption) | (with_reducible refine below_drewN ?_ _) | (with_reducible refine Below.alloc ?_ ?_ _) | (with_reducible refine Below.drew ?_) | (with_reducible refine Below.setCell ?_ ?_ _) | (with_reducible refine below_var ?_ ?_ (by assumption)) | (with_reducible refine below_own' ?_ (by assumption) (by assumption) ?_ ?_) | go_size))).block b h2
    · go_size
    · rw [HP.out]; exact HE.out.below (by repeat' (first | (with_reducible exact Below.refl _ _) | (with_reducible assumption) | (with_reducible refine below_drewN ?_ _) | (with_reducible refine Below.alloc ?_ ?_ _) | (with_reducible refine Below.drew ?_) | (with_reducible refine Below.setCell ?_ ?_ _) | (with_reducible refine below_var ?_ ?_ (by assumption)) | (with_reducible refine below_own' ?_ (by assumption) (by assumption) ?_ ?_) | go_size))
  · have HP := Lib.hid (show putE es ax ay bx bz = es ++ [⟨ax, ay, bx, bz⟩] from if_neg he)
    have HNE := Lib.hid (show ax ≠ bx ∨ (ax = bx ∧ ay ≠ bz) by by_cases h : ax = bx; exact .inr ⟨h, fun e => he ⟨h, e⟩⟩; exact .inl h)
    clear he
    go_enter Try.func70, Try.ntmps70
    have hbs := build_edge
    have hbt := slice_edge
    go_upto_region 1 with fail
    refine wp_gen ?_
    intro W hW
    have hk : Below w.heap.size w W := by rw [← hW]; exact (by repeat' (first | (with_reducible exact Below.refl _ _) | (with_reducible assumption) | (with_reducible refine below_drewN ?_ _) | (with_reducible refine Below.alloc ?_ ?_ _) | (with_reducible refine Below.drew ?_) | (with_reducible refine Below.setCell ?_ ?_ _) | (with_reducible refine below_var ?_ ?_ (by assumption)) | (with_reducible refine below_own' ?_ (by assumption) (by assumption) ?_ ?_) | go_size))
    have a0 : W.cell? ⟨w.heap.size, 0, none⟩ = some ((.int .i64 (ax))) := by rw [← hW]; simp [go_sem]
    have a1 : W.cell? ⟨w.heap.size, 1, none⟩ = some ((.int .i64 (ay))) := by rw [← hW]; simp [go_sem]
    have b0 : W.cell? ⟨w.heap.size + 1, 0, none⟩ = some ((.int .i64 (bx))) := by rw [← hW]; simp [go_sem]
    have b1 : W.cell? ⟨w.heap.size + 1, 1, none⟩ = some ((.int .i64 (bz))) := by rw [← hW]; simp [go_sem]
    replace fo := (hk.frozen (World.block_lt_of_cell? _ _ ho)).trans fo
    replace ho := (hk.cell (World.block_lt_of_cell? _ _ ho)).trans ho
    have hownW := ownsRow_below HE.out.own hk
    have na := blt a0
    have nb := blt b0
    have nO' := blt ho
    have nz : w.heap.size ≤ W.heap.size := hk.size
    clear hW
    go_cut [7] (fun s7 wx => s7 = .bool true ∧ wx = W)
    case first =>
      rcases HNE.out with hx | ⟨rfl, hy⟩
      all_goals
        go_wp2_with fail
        go_meet
        case rel => exact ⟨rfl, rfl⟩
    case rest =>
      obtain ⟨rfl, rfl⟩ := hcut
      go_wp2_with (at_builtin; go_must (refine wpList_append_lies _ rfl _ _ 26 rfl K 41 i0 _ 4 32 Try.underlying26 hi hz0 hz1 hz2 rfl (by decide) u es.length (edCells es) rfl (hownW.alloc _) ⟨_, 0, none⟩ 1 1 (⟨ax, ay, bx, bz⟩ : Edg).cells rfl rfl (news_edge _ _) ?c3 (by decide) ?c4 ?c5 ?c6 _ rfl ?_))
      case c3 => intro x hx; exact edCells_one [_] x (by simpa [edCells] using hx)
      case c4 => have := HL.out; unfold maxLen; omega
      case c5 => have := HL.out; omega
      case c6 => have := HE.out.hK; simp; omega
      intro ga cap wa hown2 hgrow hat hlta
      have hzg := hgrow.size
      simp only [World.size_alloc] at hzg
      have hOK := HE.out.lt
      obtain ⟨g3, g4⟩ := grown_at hgrow (own_ne HE.out.own (.inl hOK.2)) (by simp; omega)
      have e5 : wa.cell? ⟨O, 0, none⟩ = some u := (g3 _).trans (by go_simp)
      have e6 : wa.frozen? ⟨O, 0, none⟩ = false := (g4 _).trans (by go_simp)
      clear g3 g4
      have hE0 : Ends w wa O O u.ownBlock := Ends.grown (Ends.below (Ends.below (Ends.refl w O O _) hk) (below_alloc _ _)) hgrow
      clear hgrow
      go_wp2_with fail
      refine bodyPost_end (results_none rfl _ _ _) rfl ?_
      have hE1 := hE0.set ⟨O, 0, none⟩ (.slice (some ⟨ga, 0, none⟩) (es.length + 1) cap) (.inl rfl)
      have hbk := fun b h => (HE.out.own.lt b h)
      refine ⟨rfl, fun b h1 h2 h3 => hE1.block b h2 (by omega) (by omega) (fun e => h3 e.symm), hE1.size, .slice (some ⟨ga, 0, none⟩) (es.length + 1) cap, ?_, ?_⟩
      · rw [HP.out]
        refine ⟨by go_simp, by go_simp, ?_, ?_, ?_, hOK, ?_⟩
        · rw [List.length_append, edCells_snoc]; exact ownsRow_set hown2 (by simp; omega) _
        · have := HE.out.hK; have := hE1.size; omega
        · exact ⟨hE1.os.trans HE.out.bel.os, hE1.tape.trans HE.out.bel.tape, hE1.output.trans HE.out.bel.output, Nat.le_trans HE.out.bel.size hE1.size, fun k hk' => (hE1.block k (by have := HE.out.bel.size; omega) (by omega) (by omega) (fun e => by have := (hbk k e.symm).1; omega)).trans (HE.out.bel.block k hk')⟩
        · intro e he
          rcases List.mem_append.1 he with h | h
          · exact HE.out.ok e h
          · simp only [List.mem_singleton] at h; subst h; exact HOK.out
      · rcases hat with h | h
        · exact .inl h.symm
        · exact .inr ⟨ga, rfl, by (try simp only [World.size_alloc] at h); omega⟩

end Go.Proofs.Ytadohkidfkbncaa
