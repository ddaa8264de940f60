/-
  The walks of path.All, flat.All.
-/
import Derived.Test.YtadohkidfkbncaaNest
namespace Go.Proofs.Ytadohkidfkbncaa
open Go.RowKit
set_option linter.unusedSimpArgs false

theorem Nest.form {α : Type} {At : World → Nat → Value → α → Prop} {w : World} {K : Nat} {T : TypeId} {u : Value} {rs : List α} (h : Nest At w K T u rs) :
    ∃ (g cap : Nat) (a : Option Addr), u = .slice a rs.length cap ∧ (rs ≠ [] → a = some ⟨g, 0, none⟩) := by
  obtain ⟨vs, h1, _⟩ := h
  rcases h1.2 with ⟨rfl, h0⟩ | ⟨g, cap, cur, rfl, _⟩
  · rw [h0]
    exact ⟨0, 0, none, rfl, fun e => absurd (List.eq_nil_of_length_eq_zero h0) e⟩
  · exact ⟨g, cap, _, rfl, fun _ => rfl⟩

theorem info_segs : (Try.prog.info? 99).map (fun i => (i.zero, i.size, i.bytes)) = some (some (.slice none 0 0), 1, 24) := by kernel_rfl

set_option maxRecDepth 20000 in
set_option maxHeartbeats 1600000 in
theorem pathAll_c {w : World} {K : Nat} {u : Value} {cs : List (List Vtx)} (h : Nest VtxIn w K 111 u cs) (hl : cs.length ≤ 100) :
    Calls Try.prog 36 #[.agg #[u]] w fun r w' => (∃ u', r = .returned u' ∧ Nest SegIn w' w.heap.size 99 u' (cs.map segsE)) ∧ Below w.heap.size w w' := by
  obtain ⟨g, cap, a, rfl, ha⟩ := h.form
  have HN := Lib.hid h
  have HA := Lib.hid ha
  obtain ⟨i0, hi, hz0, hz1, hz2⟩ := info_parts info_segs
  clear h ha
  go_enter Try.func36, Try.ntmps36
  go_wp2_with fail
  refine wp_gen ?_
  intro W hW
  have HB : Below w.heap.size w W := by rw [← hW]; exact (by repeat' (first | (with_reducible exact Below.refl _ _) | (with_reducible assumption) | (with_reducible refine below_drewN ?_ _) | (with_reducible refine Below.alloc ?_ ?_ _) | (with_reducible refine Below.drew ?_) | (with_reducible refine Below.setCell ?_ ?_ _) | (with_reducible refine below_var ?_ ?_ (by assumption)) | (with_reducible refine below_own' ?_ (by assumption) (by assumption) ?_ ?_) | go_size))
  have hzB : w.heap.size < W.heap.size := by rw [← hW]; simp
  clear hW
  go_loopw [3, 9] (fun o k wr => ∃ i : Nat, i ≤ cs.length ∧ k = (.int .i64 (i)) ∧ Nest SegIn wr (w.heap.size + 1) 99 o ((cs.take i).map segsE) ∧ Below w.heap.size w wr ∧ w.heap.size < wr.heap.size) (fun _ k wr => cs.length - (intOf k).toNat)
  case atStart => exact ⟨0, by omega, rfl, Nest.nil _ _ _, HB, hzB⟩
  case round =>
    obtain ⟨i, hi', rfl, hN, hB, hzr⟩ := hrel
    have HS := Lib.hid hN
    by_cases hlt : i < cs.length
    · obtain ⟨c, hci, hcm⟩ := get_of_lt hlt
      have hane := HA.out (ne_nil_of_lt hlt)
      subst hane
      obtain ⟨v, b, hv, hV⟩ := (HN.out.below VtxIn.keeps hB).get hci
      have HV := Lib.hid hV
      have HT := Lib.hid (show (cs.take (i + 1)).map segsE = (cs.take i).map segsE ++ [segsE c] by rw [take_snoc' hci, List.map_append]; rfl)
      have HI := Lib.hid (show ((cs.take i).map segsE).length = i by simp; omega)
      clear hci hcm hV hN
      go_wp2_with fail
      go_call segs_c v c _ HV.out.at as r w1 ⟨⟨u2, rfl, ho⟩, hb1⟩
      have hs1 := HS.out.below SegIn.keeps hb1
      have hzz := hb1.size
      obtain ⟨a3, cap3, rfl⟩ := own_slice ho
      obtain ⟨cap2, a2, hv2, hl2, _, hok2, _⟩ := HV.out
      obtain ⟨b2, hS2, hb2, hK2⟩ := segIn_of_own ho (by have := segsE_len c; omega) (segsE_ok hok2) w.heap.size (by omega)
      have hone := own_oneCell ho
      obtain ⟨vs, hvs, hel⟩ := hs1
      rw [HI.out] at hvs
      have HEL := Lib.hid hel
      have HS2 := Lib.hid hS2
      have HK2 := Lib.hid hK2
      have HON := Lib.hid hone
      clear hel hS2 hK2 hone ho hv2 hl2 hok2
      go_wp2_with (at_builtin; go_must (refine wpList_append_lies _ rfl _ _ 74 rfl (w.heap.size + 1) 99 i0 _ 1 24 Try.underlying74 hi hz0 hz1 hz2 rfl (by decide) _ i vs rfl (hvs.alloc _) ⟨_, 0, none⟩ 1 1 [_] rfl rfl (cell_one_new _ _ _) ?c3 (by decide) ?c4 ?c5 ?c6 _ rfl ?_))
      case c3 => intro x hx; simp at hx; subst hx; rfl
      case c4 => unfold maxLen; omega
      case c5 => omega
      case c6 => simp; omega
      intro ga ca wa hown2 hgrow hat hlta
      have hgw := grownBy_below (below_alloc w1 _) hgrow
      have hzg := hgw.size
      have hb3 : b2 < w1.heap.size ∧ u3.ownBlock ≠ some b2 := by
        refine ⟨hb2, fun e => ?_⟩
        have h3 := HS.out.lt _ e
        rcases HK2.out with e2 | e2 <;> omega
      have hnest := Nest.snoc SegIn.keeps (u' := .slice (some ⟨ga, 0, none⟩) (i + 1) ca) (by rw [HI.out]; exact hvs) HEL.out HS2.out hb3.1 hb3.2 hgw (by
        rcases hat with h | h
        · exact .inl h.symm
        · exact .inr ⟨ga, rfl, by omega⟩) (by rw [HI.out]; exact hown2)
      have hBa : Below w.heap.size w wa := by
        refine (hB.trans (hb1.mono (by omega))).grown hgw (by omega) fun k hk => ?_
        have := (HS.out.lt k hk).1
        omega
      have HNN := Lib.hid hnest
      clear hnest hown2 hgrow hgw hvs
      go_wp2_with fail
      go_roundw
      case rel => exact ⟨i + 1, by omega, by go_num, by rw [HT.out]; exact HNN.out, hBa, by omega⟩
      case measure => simp [intOf]; omega
    · have HI := Lib.hid (show cs.take i = cs from take_all (by omega))
      clear hN
      go_wp2_with fail
      go_ret
      refine ⟨⟨_, rfl, ?_⟩, hB⟩
      have := HS.out
      rw [HI.out] at this
      exact this.mono (by omega)

end Go.Proofs.Ytadohkidfkbncaa
