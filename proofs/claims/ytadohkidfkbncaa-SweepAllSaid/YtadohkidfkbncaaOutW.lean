/-
  The walk of the outline of rows of numbers.
-/
import Derived.Test.YtadohkidfkbncaaDots
namespace Go.Proofs.Ytadohkidfkbncaa
open Go.RowKit
set_option linter.unusedSimpArgs false

set_option maxRecDepth 20000 in
set_option maxHeartbeats 1600000 in
theorem outline_c {w : World} {v : Value} {dss : List (List Dt)} (h : RowsAt w v dss) :
    Calls Try.prog 37 #[v] w fun r w' => (∃ u, r = .returned (.agg #[u]) ∧ Nest VtxIn w' w.heap.size 111 u (outlineE dss)) ∧ Below w.heap.size w w' := by
  obtain ⟨a, cap, rfl, hc, hm, hn, hr⟩ := h
  have HN := Lib.hid hn
  have HR := Lib.hid hr
  unfold maxLen at hm
  obtain ⟨n, hnn⟩ : ∃ n : Nat, n = min dss.length 8 := ⟨_, rfl⟩
  have hmin : (if (8 : Int) < (dss.length : Int) then (8 : Int) else (dss.length : Int)) = (n : Int) := by rw [hnn]; split <;> omega
  have hn8 : n ≤ 8 ∧ n ≤ dss.length := by omega
  have HN8 := Lib.hid hnn
  clear hn hr hnn
  go_enter Try.func37, Try.ntmps37
  go_wp2_with fail
  refine wp_gen ?_
  intro W hW
  have HB : Below w.heap.size w W := by rw [← hW]; exact (by repeat' (first | (with_reducible exact Below.refl _ _) | (with_reducible assumption) | (with_reducible refine below_drewN ?_ _) | (with_reducible refine Below.alloc ?_ ?_ _) | (with_reducible refine Below.drew ?_) | (with_reducible refine Below.setCell ?_ ?_ _) | (with_reducible refine below_var ?_ ?_ (by assumption)) | (with_reducible refine below_own' ?_ (by assumption) (by assumption) ?_ ?_) | go_size))
  have o0 : W.cell? ⟨w.heap.size + 1, 0, none⟩ = some (.slice none 0 0) := by rw [← hW]; simp [go_sem]
  have fo : W.frozen? ⟨w.heap.size + 1, 0, none⟩ = false := by rw [← hW]; simp [go_sem]
  have r0 : W.cell? ⟨w.heap.size, 0, none⟩ = some (.slice none 0 0) := by rw [← hW]; simp [go_sem]
  have fr : W.frozen? ⟨w.heap.size, 0, none⟩ = false := by rw [← hW]; simp [go_sem]
  clear hW
  go_loopw [4, 16] (fun l k wr => ∃ (i : Nat) (u : Value), i ≤ n ∧ k = (.int .i64 (i)) ∧ l = (.int .i64 (((outTo (dss.take i)).2 : Nat))) ∧ wr.cell? ⟨w.heap.size + 1, 0, none⟩ = some u ∧ wr.frozen? ⟨w.heap.size + 1, 0, none⟩ = false ∧ wr.cell? ⟨w.heap.size, 0, none⟩ = some (.slice none 0 0) ∧ wr.frozen? ⟨w.heap.size, 0, none⟩ = false ∧
      Nest (NeIn (NeIn VtxIn (w.heap.size + 1)) w.heap.size) wr (w.heap.size + 2) 111 u (outTo (dss.take i)).1 ∧ Below w.heap.size w wr) (fun _ k wr => n - (intOf k).toNat)
  case atStart => exact ⟨0, _, by omega, rfl, rfl, o0, fo, r0, fr, Nest.nil _ _ _, HB⟩
  case round =>
    clear o0 fo r0 fr HB
    obtain ⟨i, u, hi', rfl, rfl, o0, fo, r0, fr, hN, hB⟩ := hrel
    obtain ⟨W0, hW0⟩ : ∃ W0, W0 = wr := ⟨_, rfl⟩
    subst hW0
    have HS := Lib.hid hN
    clear hN
    by_cases hlt : i < n
    · obtain ⟨c, hci, hcm⟩ := get_of_lt (show i < dss.length by omega)
      obtain ⟨b, o, hab, hcell⟩ := HR.out (ne_nil_of_lt (show i < dss.length by omega))
      subst hab
      obtain ⟨v, hv, hD⟩ := hcell i c hci
      have hv' := (hB.cell (p := ⟨b, o + i, none⟩) (blt hv)).trans hv
      obtain ⟨a2, cap2, rfl, hc2, hm2, hn2, hok2, hD2⟩ := hD.carry hB
      have HOK := Lib.hid hok2
      have HT := Lib.hid (outTo_snoc hci)
      obtain ⟨S, hS⟩ : ∃ S, S = outTo (dss.take i) := ⟨_, rfl⟩
      rw [← hS] at HT HS
      rw [← hS]
      have hl64 : S.2 ≤ 64 := by rw [hS]; exact (outTo_le _).1
      have hl8 : S.1.length ≤ 8 := by rw [hS]; have := (outTo_le (dss.take i)).2; simp at this; omega
      obtain ⟨m, hmm⟩ : ∃ m : Nat, m = min c.length (min 12 S.2) := ⟨_, rfl⟩
      have hmin2 : (if (S.2 : Int) < (if (12 : Int) < (c.length : Int) then (12 : Int) else (c.length : Int)) then (S.2 : Int) else (if (12 : Int) < (c.length : Int) then (12 : Int) else (c.length : Int))) = (m : Int) := by rw [hmm]; split <;> split <;> omega
      have hm12 : m ≤ 12 ∧ m ≤ c.length ∧ m ≤ S.2 := by omega
      have HM := Lib.hid (show c.take (min 12 S.2) = c.take m by rw [hmm, List.take_eq_take_iff]; omega)
      have HD2 := Lib.hid hD2
      unfold maxLen at hm2
      clear hv hcell hD hn2 hok2 hD2 hci hcm hS hmm
      go_wp2_with fail
      have hW0 : w.heap.size + 1 < W0.heap.size := blt o0
      obtain ⟨i0, hi, hz0, hz1, hz2⟩ := info_parts info_vtx
      go_loopw [7, 27] (fun out k wi => ∃ j : Nat, j ≤ m ∧ k = (.int .i64 (j)) ∧ wi.ownsRow W0.heap.size 117 3 out j (vtCells ((c.take j).map Dt.vtx)) ∧ Below W0.heap.size W0 wi) (fun _ k wi => m - (intOf k).toNat)
      case atStart => exact ⟨0, by omega, rfl, World.ownsRow_nil _ _ _ _, Below.refl _ _⟩
      case round =>
        obtain ⟨j, hj, rfl, ho, hBi⟩ := hrel
        have hzi : W0.heap.size ≤ wr.heap.size := hBi.size
        by_cases hjm : j < m
        · obtain ⟨d, hdi, hdm⟩ := get_of_lt (show j < c.length by omega)
          obtain ⟨b2, o2, hab2, hcell2⟩ := HD2.out (ne_nil_of_lt (show j < c.length by omega))
          subst hab2
          obtain ⟨k0, k1, k2⟩ := hcell2 j d hdi
          have nb := blt k0
          replace k0 := (hBi.cell (World.block_lt_of_cell? _ _ k0)).trans k0
          replace k1 := (hBi.cell (World.block_lt_of_cell? _ _ k1)).trans k1
          replace k2 := (hBi.cell (World.block_lt_of_cell? _ _ k2)).trans k2
          obtain ⟨⟨x1, x2⟩, y1, y2⟩ := HOK.out d hdm
          have HV := Lib.hid (show (c.take (j + 1)).map Dt.vtx = (c.take j).map Dt.vtx ++ [d.vtx] by rw [take_snoc' hdi, List.map_append]; rfl)
          clear hdi hdm hcell2
          obtain ⟨xs, hxs⟩ : ∃ xs, xs = vtCells ((c.take j).map Dt.vtx) := ⟨_, rfl⟩
          rw [← hxs] at ho
          have HXS := Lib.hid hxs
          clear hxs
          go_wp2_with (at_builtin; go_must (refine wpList_append_lies _ rfl _ _ 111 rfl W0.heap.size 117 i0 _ 3 24 Try.underlying111 hi hz0 hz1 hz2 rfl (by decide) _ j _ rfl ((ho.alloc _).alloc _) ⟨_, 0, none⟩ 1 1 d.vtx.cells rfl rfl (news_vtx' _ _ d.vtx) (vtx_one _) (by decide) ?c4 ?c5 ?c6 _ rfl ?_))
          case c4 => unfold maxLen; omega
          case c5 => omega
          case c6 => simp; omega
          intro ga ca wa hown2 hgrow hat hlta
          have hBa : Below W0.heap.size W0 wa := grown_own (by repeat' (first | (with_reducible exact Below.refl _ _) | (with_reducible assumption) | (with_reducible refine below_drewN ?_ _) | (with_reducible refine Below.alloc ?_ ?_ _) | (with_reducible refine Below.drew ?_) | (with_reducible refine Below.setCell ?_ ?_ _) | (with_reducible refine below_var ?_ ?_ (by assumption)) | (with_reducible refine below_own' ?_ (by assumption) (by assumption) ?_ ?_) | go_size)) hgrow ((ho.alloc _).alloc _) (Nat.le_refl _) (by simp; omega)
          have HO2 := Lib.hid hown2
          clear hown2 hgrow hat
          go_wp2_with fail
          go_roundw
          case rel => exact ⟨j + 1, by omega, by go_num, by rw [HV.out, vtCells_snoc, ← HXS.out]; exact HO2.out, hBa⟩
          case measure => simp [intOf]; omega
        · have hjm' : j = m := by omega
          have HV := Lib.hid (show (c.take (min 12 S.2)).map Dt.vtx = (c.take j).map Dt.vtx by rw [HM.out, hjm'])
          have HL := Lib.hid (show ((c.take (min 12 S.2)).map Dt.vtx).length = j by rw [HV.out]; simp; omega)
          obtain ⟨ao, capo, rfl⟩ := own_slice ho
          have HO := Lib.hid ho
          replace fo := (hBi.frozen (World.block_lt_of_cell? _ _ o0)).trans fo
          replace fr := (hBi.frozen (World.block_lt_of_cell? _ _ r0)).trans fr
          replace o0 := (hBi.cell (World.block_lt_of_cell? _ _ o0)).trans o0
          replace r0 := (hBi.cell (World.block_lt_of_cell? _ _ r0)).trans r0
          subst hjm'
          clear ho
          by_cases hj0 : j = 0
          · have HF := Lib.hid (show outTo (dss.take (i + 1)) = S by rw [HT.out]; unfold outStep; simp only; rw [if_pos (by rw [HL.out]; exact hj0), HL.out, hj0]; rfl)
            have HSN := Lib.hid (HS.out.below (NeIn.keeps (NeIn.keeps VtxIn.keeps)) (hBi.mono (Nat.le_refl _)))
            go_wp2_with fail
            go_roundw
            case rel => exact ⟨i + 1, u, by omega, by go_num, by rw [HF.out], o0, fo, r0, fr, by rw [HF.out]; exact HSN.out, hB.trans (hBi.mono (by have := hB.size; omega))⟩
            case measure => simp [intOf]; omega
          · have HF := Lib.hid (show outTo (dss.take (i + 1)) = (S.1 ++ [(c.take j).map Dt.vtx], S.2 - j) by rw [HT.out]; unfold outStep; simp only; rw [if_neg (by rw [HL.out]; exact hj0), HL.out, HV.out])
            have HSN := Lib.hid (HS.out.below (NeIn.keeps (NeIn.keeps VtxIn.keeps)) (hBi.mono (Nat.le_refl _)))
            obtain ⟨b3, hS3, hb3, hK3⟩ := vtxIn_of_own1 (l := (c.take j).map Dt.vtx) (by have := HL.out; rw [HV.out] at this; rw [this]; exact HO.out) (by simp; omega) (fun e he => by obtain ⟨d, _, rfl⟩ := List.mem_map.1 he; exact d.vtx_ok) (by have := HL.out; rw [HV.out] at this; omega)
            have HS3 := Lib.hid hS3
            have HK3 := Lib.hid hK3
            have HON := Lib.hid (own_oneCell HO.out)
            obtain ⟨vs, hvs, hel⟩ := HSN.out
            have HEL := Lib.hid hel
            obtain ⟨i1, hi1, hy0, hy1, hy2⟩ := info_parts info_vtxs
            clear hel hS3 hK3
            go_wp2_with (at_builtin; go_must (refine wpList_append_lies _ rfl _ _ 76 rfl (w.heap.size + 2) 111 i1 _ 1 24 Try.underlying76 hi1 hy0 hy1 hy2 rfl (by decide) u S.1.length vs rfl (hvs.alloc _) ⟨_, 0, none⟩ 1 1 [_] rfl rfl (cell_one_new _ _ _) ?c7 (by decide) ?c8 ?c9 ?c10 _ rfl ?_))
            case c7 => intro x hx; simp at hx; subst hx; rfl
            case c8 => unfold maxLen; omega
            case c9 => omega
            case c10 => simp; omega
            intro ga ca wa hown2 hgrow hat hlta
            have hgw := grownBy_below (below_alloc wr _) hgrow
            have hzg := hgw.size
            have hu1 : ∀ k, k < w.heap.size + 2 → u.ownBlock ≠ some k := fun k hk e => by have := (HSN.out.lt k e).1; omega
            have q := hgw.block (w.heap.size + 1) (by omega) (fun e => hu1 _ (by omega) e.symm)
            have q0 := hgw.block w.heap.size (by omega) (fun e => hu1 _ (by omega) e.symm)
            replace o0 := (World.cell?_of_block (a := ⟨w.heap.size + 1, 0, none⟩) q).trans o0
            replace fo := (World.frozen?_of_block (a := ⟨w.heap.size + 1, 0, none⟩) q).trans fo
            replace r0 := (World.cell?_of_block (a := ⟨w.heap.size, 0, none⟩) q0).trans r0
            replace fr := (World.frozen?_of_block (a := ⟨w.heap.size, 0, none⟩) q0).trans fr
            have hnest := Nest.snoc (NeIn.keeps (NeIn.keeps VtxIn.keeps)) (u' := .slice (some ⟨ga, 0, none⟩) (S.1.length + 1) ca) hvs HEL.out (r := (c.take j).map Dt.vtx) (b := b3) (v := .slice ao j capo) ⟨⟨HS3.out, by have := HK3.out; omega⟩, by have := HK3.out; omega⟩ hb3 (fun e => by have := HS.out.lt _ e; have := HK3.out; omega) hgw (by
              rcases hat with h | h
              · exact .inl h.symm
              · exact .inr ⟨ga, rfl, by omega⟩) hown2
            have hBa : Below w.heap.size w wa := (hB.trans (hBi.mono (by omega))).grown hgw (by omega) fun k hk => by have := (HSN.out.lt k hk).1; omega
            have HNN := Lib.hid hnest
            clear hnest hown2 hgrow hgw hvs hat q q0 hu1
            go_wp2_with fail
            go_roundw
            case rel => exact ⟨i + 1, .slice (some ⟨ga, 0, none⟩) (S.1.length + 1) ca, by omega, by go_num, by rw [HF.out]; go_num, by go_simp, by go_simp, by go_simp, by go_simp, by rw [HF.out]; exact HNN.out.set (NeIn.keeps (NeIn.keeps VtxIn.keeps)) (by simp) (fun _ _ _ _ h => h.1.2) _, (by repeat' (first | (with_reducible exact Below.refl _ _) | (with_reducible assumption) | (with_reducible refine below_drewN ?_ _) | (with_reducible refine Below.alloc ?_ ?_ _) | (with_reducible refine Below.drew ?_) | (with_reducible refine Below.setCell ?_ ?_ _) | (with_reducible refine below_var ?_ ?_ (by assumption)) | (with_reducible refine below_own' ?_ (by assumption) (by assumption) ?_ ?_) | go_size))⟩
            case measure => simp [intOf]; omega
    · have HI := Lib.hid (show outTo (dss.take i) = outTo (dss.take 8) by have := HN8.out; congr 1; rw [List.take_eq_take_iff]; omega)
      obtain ⟨gg, cc, aa, rfl, _⟩ := HS.out.form
      go_wp2_with fail
      refine bodyPost_ret (by simp [results, Try.results37, go_sem, r0, fr]; rfl) rfl ?_
      refine ⟨⟨_, rfl, ?_⟩, (by repeat' (first | (with_reducible exact Below.refl _ _) | (with_reducible assumption) | (with_reducible refine below_drewN ?_ _) | (with_reducible refine Below.alloc ?_ ?_ _) | (with_reducible refine Below.drew ?_) | (with_reducible refine Below.setCell ?_ ?_ _) | (with_reducible refine below_var ?_ ?_ (by assumption)) | (with_reducible refine below_own' ?_ (by assumption) (by assumption) ?_ ?_) | go_size))⟩
      unfold outlineE
      rw [← HI.out]
      exact ((((HS.out.mono (show w.heap.size + 1 ≤ _ by omega)).set (a := ⟨w.heap.size, 0, none⟩) (NeIn.keeps (NeIn.keeps VtxIn.keeps)) (by simp) (fun _ _ _ _ h => h.2) _)).mono (by omega)).imp fun _ _ _ _ h => h.1.1

end Go.Proofs.Ytadohkidfkbncaa
