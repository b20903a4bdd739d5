/- What a cache answers: put. -/
import Derived.Test.YtnakbdgoaepehaaCacheOps2
namespace Go.Proofs.Ytnakbdgoaepehaa
open Go.RowKit Go.Cu
theorem front_few {p : Pt} {size : Nat} (h : p.Ok size) (k : Str) : (without k p.l).length ≤ size := by
  have h1 : (without k p.l).length ≤ p.l.length := List.length_filter_le _ _
  exact Nat.le_trans h1 h.few
theorem short_name {p : Pt} (h : Short p) {k x : Str} (hk : k.length ≤ maxLen) {k0 : Str} (h0 : (names ((k, x) :: without k p.l))[0]? = some k0) : k0.length ≤ maxLen := by
  have hm : k0 ∈ names ((k, x) :: without k p.l) := List.mem_of_getElem? h0
  rw [names_front, List.mem_append] at hm
  rcases hm with hm | hm
  · unfold names at hm
    rw [List.mem_reverse, keys_without, List.mem_filter] at hm
    obtain ⟨y, hy, rfl⟩ := List.mem_map.1 hm.1
    exact (h y hy).1
  · rw [List.mem_singleton] at hm
    rw [hm]; exact hk
theorem Short.put {p : Pt} (h : Short p) {size : Nat} {k x : Str} (hk : k.length ≤ maxLen) (hx : x.length ≤ maxLen) : Short (p.put size k x) := fun y hy => by
  have h1 : y ∈ (k, x) :: without k p.l := List.mem_of_mem_take hy
  rcases List.mem_cons.1 h1 with rfl | h2
  · exact ⟨hk, hx⟩
  · exact h y ((List.mem_filter.1 h2).1)
theorem seek_mem {k x : Str} : ∀ {l : List (Str × Str)}, seek k l = some x → (k, x) ∈ l
  | [], h => by cases h
  | y :: l, h => by
    rw [seek] at h
    split at h
    · rename_i e
      cases h
      subst e
      exact List.mem_cons_self
    · exact List.mem_cons_of_mem _ (seek_mem h)
theorem Short.get {p : Pt} (h : Short p) (k : Str) : Short (p.get k).2 := by
  unfold Pt.get
  split
  · exact h
  · rename_i x hx
    intro y hy
    rcases List.mem_cons.1 hy with rfl | h2
    · exact h _ (seek_mem hx)
    · exact h y ((List.mem_filter.1 h2).1)
theorem Short.drop (p : Pt) : Short p.drop := fun y hy => by cases hy
section
variable {W0 W : World} {L : List Atm} {N g size : Nat} {ps : List Pt}
set_option maxRecDepth 20000 in
set_option maxHeartbeats 8000000 in
theorem cput_st (h : St W0 (CacheA N g size ps :: L) W) {i : Nat} (hi : i < ps.length) (ho : ps[i].Ok size) (hsh : Short ps[i]) (hs : size ≤ 256) (hN : N ≤ 1000000) {k x : Str} (hk : k.length ≤ maxLen) (hx : x.length ≤ maxLen) :
    Calls Try.prog 20 #[ptrV g, .int .i64 i, .string (strB k), .string (strB x)] W fun r w' => r = .returned (.int .i64 0) ∧ St W0 (CacheA (N + 1) g size (ps.set i (ps[i].put size k x)) :: L) w' := by
  obtain ⟨b, M, h1, hM, hback⟩ := h.cacheIn hi
  obtain ⟨p, hp⟩ : ∃ p, p = ps[i] := ⟨_, rfl⟩
  rw [← hp] at h1 ho hsh ⊢
  have HB := hid (fun X p' (hX : St W0 (PartA (N + 1) (b, p') :: (M ++ L)) X) => hback X L p' (N + 1) (Nat.le_succ _) hX)
  obtain ⟨bm, n, v, hn, h2⟩ := h1.part
  have HNN := hid (show n + 1 ≤ N + 1 by omega)
  have hnm : n < maxLen := by unfold maxLen; omega
  have HM := hid hM
  have H2 := hid (show St W0 (Blk b (partV bm v p) 76 :: MapA Try.prog 9 9 bm n (lookF p.l) :: Row v 9 1 p.l.length ((names p.l).map sv) :: (M ++ L)) W from h2)
  have hfew := ho.few
  have hff := front_few ho k
  obtain ⟨q, hq⟩ : ∃ q, q = (k, x) :: without k p.l := ⟨_, rfl⟩
  obtain ⟨m, hm⟩ : ∃ m, m = (without k p.l).length := ⟨_, rfl⟩
  have HQL := hid (show q.length = m + 1 by rw [hq, hm]; rfl)
  have HQN := hid (show names (without k p.l) ++ [k] = names q by rw [hq, names_front])
  have HQF := hid (show (fun j => if j = k then some x else lookF p.l j) = lookF q by rw [hq]; exact seek_front.symm)
  have HQD := hid (show (keys q).Nodup by rw [hq]; exact nodup_front ho.once)
  have HQS := hid (show ∀ k0, (names q)[0]? = some k0 → k0.length ≤ maxLen by rw [hq]; exact fun k0 h0 => short_name hsh hk h0)
  have HPUT := hid (show p.put size k x = { p with l := q.take size } by rw [hq]; rfl)
  have HU := hid (fun X (f : Str → Option Str) (hX : St W0 (Blk b (partV bm v p) 76 :: Row v 9 1 p.l.length ((names p.l).map sv) :: MapA Try.prog 9 9 bm (n + 1) f :: (M ++ L)) X) => use_st hX ho.once (by omega) k)
  rw [← hm] at HU hff
  rw [HQN.out] at HU
  rw [HPUT.out]
  obtain ⟨x0, x1, x2, x3⟩ := part_cells H2.out
  clear h1 h2 hM hback h hn hp ho hsh hq hm hfew
  go_enter Try.func20, Try.ntmps20
  go_upto_region 6 with (first | (go_at_call 34; (with_reducible refine (HM.out _ _ H2.out.drop.drop.drop).2.mono ?_); rintro r w1 ⟨rfl, rfl⟩) | (at_mapUpdate; refine wpList_mapPut rfl _ _ _ rfl Try.underlying74 Try.underlying9 Try.underlying9 H2.out.at2 rfl k x rfl rfl hk hx hnm ?_; intro w2 hs2; have H3 := hid hs2.back3; clear hs2 x0 x1 x2 x3) | (go_at_call 35; (with_reducible refine (HU.out _ _ H3.out).mono ?_); rintro r w3 ⟨rfl, v2, hs3⟩; have H4 := hid hs3; clear hs3))
  clear H2 HU hnm
  obtain ⟨A2, c2, rfl, _⟩ := row_slice H4.out.at2
  rw [HQF.out] at H4
  have HF := hid (show ∀ X, St W0 (Blk b (partV bm (.slice A2 (m + 1) c2) p) 76 :: Row (.slice A2 (m + 1) c2) 9 1 (m + 1) ((names q).map sv) :: MapA Try.prog 9 9 bm (n + 1) (lookF q) :: (M ++ L)) X → X.cell? ⟨b, 0, none⟩ = some (.map (some bm)) ∧ X.cell? ⟨b, 1, none⟩ = some (.slice A2 (m + 1) c2) ∧ X.cell? ⟨g, 0, none⟩ = some (.int .i64 size) from fun X hX => ⟨(part_cells hX).1, (part_cells hX).2.1, (HM.out _ _ hX.drop.drop.drop).1⟩)
  refine wp_region_ord [] [(0, 1), (1, 1), (2, 1), (3, 1), (4, 1), (5, 1), (6, 1), (7, 1), (8, 1), (9, 1)] (fun X => St W0 (Blk b (partV bm (.slice A2 (m + 1) c2) p) 76 :: Row (.slice A2 (m + 1) c2) 9 1 (m + 1) ((names q).map sv) :: MapA Try.prog 9 9 bm (n + 1) (lookF q) :: (M ++ L)) X) (by kernel_rfl) (by kernel_rfl) (fun d _ c _ _ h => by cases d <;> exact h) (H4.out.turn (Below.drew (Below.refl _ _))) (fun X hXe hX => ?_)
  clear hXe H4
  repeat (apply wpOrd_class; ((· first | (rw [List.getElem?_toArray, List.getElem?_cons_zero]; done) | (simp only [List.getElem?_toArray, List.getElem?_cons_succ, List.getElem?_cons_zero]; exact rfl))); (· exact rfl); intro K hK; apply Exists.intro; refine And.intro (fun X' hX' => ?_) ?_; (· obtain ⟨hq1, hq2, hq3⟩ := HF.out _ hX'; clear hX'; go_simp; (try go_bits); first | done | exact rfl | exact ⟨rfl, rfl⟩); go_simp; refine hK _ _ ?_; clear hK K)
  refine wpOrd_done ?_
  have H5 := hid hX
  clear hX
  by_cases hgt : size < m + 1
  · have e1 : (size : Int) < (m : Int) + 1 := by omega
    have hms : m = size := by omega
    obtain ⟨k0, hk0, hk1, hk2⟩ := last_goes (by rw [HQL.out, hms]) HQD.out
    obtain ⟨g2, rfl, _⟩ := row_at (x := sv k0) H5.out.at2 rfl (by rw [List.getElem?_map, hk0]; rfl)
    have HF2 := hid (show ∀ X, St W0 (Blk b (partV bm (.slice (some ⟨g2, 0, none⟩) (m + 1) c2) p) 76 :: Row (.slice (some ⟨g2, 0, none⟩) (m + 1) c2) 9 1 (m + 1) ((names q).map sv) :: MapA Try.prog 9 9 bm (n + 1) (lookF q) :: (M ++ L)) X → X.cell? ⟨b, 0, none⟩ = some (.map (some bm)) ∧ X.cell? ⟨b, 1, none⟩ = some (.slice (some ⟨g2, 0, none⟩) (m + 1) c2) ∧ X.cell? ⟨g2, 0, none⟩ = some (.string (strB k0)) from fun X hX => by
      obtain ⟨g3, hg3, hc⟩ := row_at (x := sv k0) hX.at2 rfl (by rw [List.getElem?_map, hk0]; rfl)
      cases hg3
      exact ⟨(part_cells hX).1, (part_cells hX).2.1, hc⟩)
    have HK0 := hid (HQS.out k0 hk0)
    have HK1 := hid hk1
    have HK2 := hid hk2
    have HLN := hid (show (names q).length = m + 1 by rw [names_length, HQL.out])
    have HTK := hid (show (q.take size).length = m by rw [List.length_take, HQL.out]; omega)
    clear hk0 hk1 hk2 HF hms
    go_wp2_with fail
    refine wp_region_ord [10] [(0, 1), (1, 1), (2, 1), (3, 1), (4, 1), (5, 1), (6, 1), (7, 1), (8, 1), (9, 1), (10, 2)] (fun X => St W0 (Blk b (partV bm (.slice (some ⟨g2, 0, none⟩) (m + 1) c2) p) 76 :: Row (.slice (some ⟨g2, 0, none⟩) (m + 1) c2) 9 1 (m + 1) ((names q).map sv) :: MapA Try.prog 9 9 bm (n + 1) (lookF q) :: (M ++ L)) X) (by kernel_rfl) (by kernel_rfl) (fun d _ c _ _ h => by cases d <;> exact h) (H5.out.turn (Below.drew (Below.refl _ _))) (fun X hXe hX => ?_)
    clear hXe H5
    repeat (apply wpOrd_class; ((· first | (rw [List.getElem?_toArray, List.getElem?_cons_zero]; done) | (simp only [List.getElem?_toArray, List.getElem?_cons_succ, List.getElem?_cons_zero]; exact rfl))); (· exact rfl); intro K hK; apply Exists.intro; refine And.intro (fun X' hX' => ?_) ?_; (· obtain ⟨hq1, hq2, hq3⟩ := HF2.out _ hX'; clear hX'; go_simp; (try go_bits); first | done | exact rfl | exact ⟨rfl, rfl⟩); go_simp; refine hK _ _ ?_; clear hK K)
    (apply wpOrd_comes; ((· first | (rw [List.getElem?_toArray, List.getElem?_cons_zero]; done) | (simp only [List.getElem?_toArray, List.getElem?_cons_succ, List.getElem?_cons_zero]; exact rfl))); intro N hN)
    refine wpList_mapDel rfl _ _ rfl Try.underlying74 Try.underlying9 hX.at3 rfl k0 rfl HK0.out ?_
    intro w6 hs6
    have H6 := hid hs6
    clear hs6 hX HF2
    rw [← HK2.out] at H6
    refine hN _ _ (fun h => by cases h) ?_
    clear hN N
    refine wpOrd_done ?_
    have H7 := hid (show St W0 (Row (.slice (some ⟨g2, 0, none⟩) (m + 1) c2) 9 1 (m + 1) ((names q).map sv) :: Blk b (partV bm (.slice (some ⟨g2, 0, none⟩) (m + 1) c2) p) 76 :: MapA Try.prog 9 9 bm (n + 1) (lookF (q.take size)) :: (M ++ L)) w6 from H6.out.back3.at2)
    have HD := hid (show Calls Try.prog 36 #[.slice (some ⟨g2, 0, none⟩) (m + 1) c2, .int .i64 0, .int .i64 1] w6 fun r w' => r = .returned (.slice (some ⟨g2, 0, none⟩) m c2) ∧ St W0 (Row (.slice (some ⟨g2, 0, none⟩) m c2) 9 1 m ((names (q.take size)).map sv) :: Blk b (partV bm (.slice (some ⟨g2, 0, none⟩) (m + 1) c2) p) 76 :: MapA Try.prog 9 9 bm (n + 1) (lookF (q.take size)) :: (M ++ L)) w' from by
      have h9 := delete_st H7.out HLN.out (i := 0) (by omega) (j := 1) (by omega)
      rw [List.take_zero, List.nil_append, ← HK1.out, Nat.add_sub_cancel] at h9
      exact h9)
    obtain ⟨x0, x1, x2, x3⟩ := part_cells H7.out.at2
    clear H6
    go_wp2_with (go_at_call 36; (with_reducible refine HD.out.mono ?_); rintro r w7 ⟨rfl, hs7⟩; have H8 := hid hs7; clear hs7 x0 x1 x2 x3; obtain ⟨x0, x1, x2, x3⟩ := part_cells H8.out.at2; have f1 := frozen_of_row w7 b 1 _ _ H8.out.at2.blk)
    go_ret
    refine ⟨rfl, HB.out _ _ (St.unpart (bm := bm) (n := n + 1) (v := .slice (some ⟨g2, 0, none⟩) m c2) ?_ HNN.out)⟩
    have h9 := H8.out.at2.setCell 1 (.slice (some ⟨g2, 0, none⟩) m c2)
    show St W0 (Blk b (partV bm (.slice (some ⟨g2, 0, none⟩) m c2) p) 76 :: MapA Try.prog 9 9 bm (n + 1) (lookF (q.take size)) :: Row (.slice (some ⟨g2, 0, none⟩) m c2) 9 1 (q.take size).length ((names (q.take size)).map sv) :: (M ++ L)) _
    rw [HTK.out]
    exact h9.at3.at2
  · have e1 : ¬ (size : Int) < (m : Int) + 1 := by omega
    have HTK := hid (show q.take size = q from List.take_of_length_le (by rw [HQL.out]; omega))
    clear HF
    go_wp2_with fail
    go_ret
    rw [HTK.out]
    refine ⟨rfl, HB.out _ _ (St.unpart (bm := bm) (n := n + 1) (v := .slice A2 (m + 1) c2) ?_ HNN.out)⟩
    show St W0 (Blk b (partV bm (.slice A2 (m + 1) c2) p) 76 :: MapA Try.prog 9 9 bm (n + 1) (lookF q) :: Row (.slice A2 (m + 1) c2) 9 1 q.length ((names q).map sv) :: (M ++ L)) _
    rw [HQL.out]
    exact H5.out.at3.at2
end
end Go.Proofs.Ytnakbdgoaepehaa
