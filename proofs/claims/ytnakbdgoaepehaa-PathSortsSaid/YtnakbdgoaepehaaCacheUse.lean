/- A name made the last one used. -/
import Derived.Test.YtnakbdgoaepehaaCacheLib
import Derived.Deep.CutBlock
import Derived.Deep.DeepCutAuto
namespace Go.Proofs.Ytnakbdgoaepehaa
open Go.RowKit Go.Cu
theorem zero9 (W : World) : (zeroValue 9).run Try.prog W = .ok (.string ByteArray.empty) W := by kernel_rfl
theorem size9 : (Try.prog.info? 9).map (·.size) = some 1 := by kernel_rfl
theorem info9 : (Try.prog.info? 9).map (fun i => (i.zero, i.size, i.bytes)) = some (some (.string ByteArray.empty), 1, 16) := by kernel_rfl
section
variable {W0 W : World} {L : List Atm} {b bm : Nat} {v : Value} {p : Pt}
theorem part_cells (h : St W0 (Blk b (partV bm v p) 76 :: L) W) : W.cell? ⟨b, 0, none⟩ = some (.map (some bm)) ∧ W.cell? ⟨b, 1, none⟩ = some v ∧ W.cell? ⟨b, 2, none⟩ = some (.int .i64 p.hits) ∧ W.cell? ⟨b, 3, none⟩ = some (.int .i64 p.misses) :=
  ⟨(cell_of_row W b 0 _ _ _ h.blk).trans rfl, (cell_of_row W b 1 _ _ _ h.blk).trans rfl, (cell_of_row W b 2 _ _ _ h.blk).trans rfl, (cell_of_row W b 3 _ _ _ h.blk).trans rfl⟩
set_option maxRecDepth 20000 in
set_option maxHeartbeats 4000000 in
theorem use_st (h : St W0 (Blk b (partV bm v p) 76 :: Row v 9 1 p.l.length ((names p.l).map sv) :: L) W) (hd : (keys p.l).Nodup) (hb : p.l.length ≤ 100000) (k : Str) :
    Calls Try.prog 35 #[ptrV b, .string (strB k)] W fun r w' => r = .returned (.tuple #[]) ∧ ∃ v', St W0 (Blk b (partV bm v' p) 76 :: Row v' 9 1 ((without k p.l).length + 1) ((names (without k p.l) ++ [k]).map sv) :: L) w' := by
  obtain ⟨A, c, rfl, _⟩ := row_slice h.at2
  obtain ⟨i, hk1, hk2, hidx⟩ := index_st h.at2 (names_length _) k
  obtain ⟨i9, hi, hiz, his, hib⟩ := info_parts info9
  have HI := hid (And.intro hi (And.intro hiz (And.intro his hib)))
  have HX := hid hidx
  have HH := hid h
  obtain ⟨n, hn⟩ : ∃ n, n = p.l.length := ⟨_, rfl⟩
  rw [← hn] at HX HH hb
  have HN := hid hn
  clear hidx hi hiz his hib
  by_cases hm : k ∈ names p.l
  · obtain ⟨j, rfl, hj⟩ := hk1 hm
    have hjl : j < n := by have := (List.getElem?_eq_some_iff.1 hj).1; rw [names_length] at this; omega
    have hcut := names_without hd hj
    have hwl : (without k p.l).length = n - 1 := by
      have h1 := congrArg List.length hcut
      rw [names_length, List.length_append, List.length_take, List.length_drop, names_length, ← hn] at h1
      omega
    have e0 : (0 : Int) ≤ (j : Int) := by omega
    have HD := hid (fun X (hX : St W0 (Row (.slice A n c) 9 1 n ((names p.l).map sv) :: Blk b (partV bm (.slice A n c) p) 76 :: L) X) => delete_st hX (by rw [names_length, HN.out]) hjl (j := (j : Int) + 1) (by omega))
    rw [hcut, ← hwl] at HD
    obtain ⟨m, hmm⟩ : ∃ m, m = (without k p.l).length := ⟨_, rfl⟩
    rw [← hmm] at HD hwl ⊢
    obtain ⟨x0, x1, x2, x3⟩ := part_cells HH.out
    have hmb : m ≤ 100000 := by omega
    clear hk1 hk2 hm hj hcut hn hmm h hd hwl
    go_enter Try.func35, Try.ntmps35
    go_upto_region 3 with (first | (go_at_call 45; (with_reducible refine HX.out.mono ?_); rintro r w1 ⟨rfl, rfl⟩) | (go_at_call 36; (with_reducible refine (HD.out _ HH.out.at2).mono ?_); rintro r w2 ⟨rfl, hs⟩; have H2 := hid hs; clear hs; replace x1 := (part_cells H2.out.at2).2.1; have f1 := frozen_of_row w2 b 1 _ _ H2.out.at2.blk))
    have H3 := hid (H2.out.at2.setCell 1 (.slice A m c))
    obtain ⟨Y, hY⟩ : ∃ Y, Y = w2.setCell ⟨b, 1, none⟩ (.slice A m c) := ⟨_, rfl⟩
    rw [← hY] at H3
    simp only [← hY]
    clear x0 x1 x2 x3 f1 H2 HD HX HH hY
    have H3 := hid (show St W0 (Blk b (partV bm (.slice A m c) p) 76 :: Row (.slice A m c) 9 1 m ((names (without k p.l)).map sv) :: L) Y from H3.out)
    obtain ⟨x0, x1, x2, x3⟩ := part_cells H3.out
    (go_wp2_with (first | (refine wpList_buildSlice1 _ rfl (.string (strB k)) (by simp [Act.eval]) rfl Try.underlying35 zero9 size9 (by decide) (by decide) rfl ?_; intro gn X4 hS hgs hges hX1b; have H4 := hid (H3.out.turn hX1b); have HNW := hid (news_box hS [.string (strB k)] rfl); clear hS hgs hges hX1b x0 x1 x2 x3) | (refine wpList_append_at _ _ _ rfl (.slice A m c) rfl ⟨gn, 0, none⟩ 1 1 rfl rfl 9 i9 (.string ByteArray.empty) 1 16 Try.underlying35 HI.out.1 HI.out.2.1 HI.out.2.2.1 HI.out.2.2.2 rfl (by decide) m _ H4.out.at2.row [.string (strB k)] rfl HNW.out (by simp [Value.oneCell']) (by unfold maxLen; omega) (by omega) ?_; intro v' X5 hO2 hT2 hfr; have H5 := hid (H4.out.at2.grow hO2 hT2 hfr); clear hO2 hT2 hfr; obtain ⟨B1, d1, hv', _⟩ := row_slice H5.out; subst hv'; have x1 := (part_cells H5.out.at2).2.1; have f1 := frozen_of_row X5 b 1 _ _ H5.out.at2.blk)))
    go_end0
    have H6 := H5.out.at2.setCell 1 (.slice B1 (m + 1) d1)
    refine ⟨rfl, .slice B1 (m + 1) d1, ?_⟩
    rw [List.map_append]
    exact H6
  · have hi := hk2 hm
    subst hi
    obtain ⟨x0, x1, x2, x3⟩ := part_cells HH.out
    have hw : without k p.l = p.l := without_none (by rw [← seek_none, seek_names]; exact hm)
    rw [hw, ← hn]
    obtain ⟨m, hmm⟩ : ∃ m, m = n := ⟨_, rfl⟩
    rw [← hmm] at HX HH hb ⊢
    have H3 := HH
    clear hk1 hk2 hm hn hmm h hd hw HH HN x0 x1 x2 x3
    obtain ⟨x0, x1, x2, x3⟩ := part_cells H3.out
    go_enter Try.func35, Try.ntmps35
    go_upto_region 3 with (go_at_call 45; (with_reducible refine HX.out.mono ?_); rintro r w1 ⟨rfl, rfl⟩)
    clear HX
    (go_wp2_with (first | (refine wpList_buildSlice1 _ rfl (.string (strB k)) (by simp [Act.eval]) rfl Try.underlying35 zero9 size9 (by decide) (by decide) rfl ?_; intro gn X4 hS hgs hges hX1b; have H4 := hid (H3.out.turn hX1b); have HNW := hid (news_box hS [.string (strB k)] rfl); clear hS hgs hges hX1b x0 x1 x2 x3) | (refine wpList_append_at _ _ _ rfl (.slice A m c) rfl ⟨gn, 0, none⟩ 1 1 rfl rfl 9 i9 (.string ByteArray.empty) 1 16 Try.underlying35 HI.out.1 HI.out.2.1 HI.out.2.2.1 HI.out.2.2.2 rfl (by decide) m _ H4.out.at2.row [.string (strB k)] rfl HNW.out (by simp [Value.oneCell']) (by unfold maxLen; omega) (by omega) ?_; intro v' X5 hO2 hT2 hfr; have H5 := hid (H4.out.at2.grow hO2 hT2 hfr); clear hO2 hT2 hfr; obtain ⟨B1, d1, hv', _⟩ := row_slice H5.out; subst hv'; have x1 := (part_cells H5.out.at2).2.1; have f1 := frozen_of_row X5 b 1 _ _ H5.out.at2.blk)))
    go_end0
    have H6 := H5.out.at2.setCell 1 (.slice B1 (m + 1) d1)
    refine ⟨rfl, .slice B1 (m + 1) d1, ?_⟩
    rw [List.map_append]
    exact H6
end
end Go.Proofs.Ytnakbdgoaepehaa
