/- What a cache answers: names, put, drop. -/
import Derived.Test.YtnakbdgoaepehaaCacheOps
namespace Go.Proofs.Ytnakbdgoaepehaa
open Go.RowKit Go.Cu
section
variable {W0 W : World} {L : List Atm} {N g size : Nat} {ps : List Pt}
theorem names_rev (l : List (Str × Str)) : (names l).reverse = keys l := by unfold names; rw [List.reverse_reverse]
set_option maxRecDepth 20000 in
set_option maxHeartbeats 4000000 in
theorem cnames_st (h : St W0 (CacheA N g size ps :: L) W) {i : Nat} (hi : i < ps.length) (hl : ps[i].l.length ≤ 100000) :
    Calls Try.prog 21 #[ptrV g, .int .i64 i] W fun r w' => ∃ B d, r = .returned (.slice B ps[i].l.length d) ∧ St W0 (Row (.slice B ps[i].l.length d) 9 1 ps[i].l.length ((keys ps[i].l).map sv) :: CacheA N g size ps :: L) w' := by
  obtain ⟨b, M, h1, hM, hback⟩ := h.cacheIn hi
  obtain ⟨p, hp⟩ : ∃ p, p = ps[i] := ⟨_, rfl⟩
  rw [← hp] at h1 hl ⊢
  have hset : ps.set i p = ps := by rw [hp, List.set_getElem_self]
  have HB := hid (fun X (R : Atm) (hX : St W0 (R :: PartA N (b, p) :: (M ++ L)) X) => show St W0 (R :: CacheA N g size ps :: L) X from by
    have h3 := hback X (R :: L) p N (Nat.le_refl _) (hX.perm (List.perm_middle (l₁ := PartA N (b, p) :: M)).symm)
    rw [hset] at h3
    exact h3.at2)
  obtain ⟨bm, n, v, hn, h2⟩ := h1.part
  have HN := hid hn
  have HM := hid hM
  obtain ⟨A, c, rfl, _⟩ := row_slice h2.at3
  have H2 := hid (show St W0 (Blk b (partV bm (.slice A p.l.length c) p) 76 :: MapA Try.prog 9 9 bm n (lookF p.l) :: Row (.slice A p.l.length c) 9 1 p.l.length ((names p.l).map sv) :: (M ++ L)) W from h2)
  have HC := hid (clone_st h2.at3 (names_length _) (by omega))
  obtain ⟨x0, x1, x2, x3⟩ := part_cells H2.out
  have HL := hid (names_length p.l)
  clear h1 h2 hM hback h hn hp hset
  go_enter Try.func21, Try.ntmps21
  go_upto_region 5 with (first | (go_at_call 34; (with_reducible refine (HM.out _ _ H2.out.drop.drop.drop).2.mono ?_); rintro r w1 ⟨rfl, rfl⟩) | (go_at_call 37; (with_reducible refine HC.out.mono ?_); rintro r w2 ⟨v2, rfl, hs2⟩; have H3 := hid hs2; clear hs2))
  obtain ⟨B, d, rfl, _⟩ := row_slice H3.out
  have HR := hid (reverse_st H3.out HL.out)
  go_wp2_with (go_at_call 38; (with_reducible refine HR.out.mono ?_); rintro r w3 ⟨rfl, hs3⟩; have H4 := hid hs3; clear hs3)
  go_ret
  rw [names_rev] at H4
  exact ⟨B, d, rfl, HB.out _ _ (St.at2 (St.unpart (bm := bm) (n := n) H4.out.back4.back3 HN.out))⟩
set_option maxRecDepth 20000 in
set_option maxHeartbeats 4000000 in
theorem cdrop_st (h : St W0 (CacheA N g size ps :: L) W) {i : Nat} (hi : i < ps.length) :
    Calls Try.prog 25 #[ptrV g, .int .i64 i] W fun r w' => r = .returned (.int .i64 0) ∧ St W0 (CacheA N g size (ps.set i ps[i].drop) :: L) w' := by
  obtain ⟨b, M, h1, hM, hback⟩ := h.cacheIn hi
  obtain ⟨p, hp⟩ : ∃ p, p = ps[i] := ⟨_, rfl⟩
  rw [← hp] at h1 ⊢
  have HB := hid (fun X p' (hX : St W0 (PartA N (b, p') :: (M ++ L)) X) => hback X L p' N (Nat.le_refl _) hX)
  obtain ⟨bm, n, v, hn, h2⟩ := h1.part
  have HN := hid hn
  have HM := hid hM
  have H2 := hid (show St W0 (Blk b (partV bm v p) 76 :: MapA Try.prog 9 9 bm n (lookF p.l) :: Row v 9 1 p.l.length ((names p.l).map sv) :: (M ++ L)) W from h2)
  clear h1 h2 hM hback h hn hp
  go_enter Try.func25, Try.ntmps25
  go_wp2_with (first | (go_at_call 34; (with_reducible refine (HM.out _ _ H2.out.drop.drop.drop).2.mono ?_); rintro r w1 ⟨rfl, rfl⟩) | (refine wpList_newMap (P := Try.prog) (k := 9) (e := 9) rfl rfl H2.out ?_; intro g2 w2 hs2 _; have H3 := hid hs2; clear hs2; obtain ⟨x0, x1, x2, x3⟩ := part_cells H3.out.at2; have f0 := frozen_of_row w2 b 0 _ _ H3.out.at2.blk; have f1 := frozen_of_row w2 b 1 _ _ H3.out.at2.blk))
  go_ret
  refine ⟨rfl, HB.out _ _ (St.unpart (bm := g2) (n := 0) (v := .slice none 0 0) ?_ (Nat.zero_le _))⟩
  have h4 := (H3.out.at2.setCell 0 (.map (some g2))).setCell 1 (.slice none 0 0)
  exact (h4.at4.drop.at3.drop.nilRow 9 1).at3.at3
end
end Go.Proofs.Ytnakbdgoaepehaa
