/- A new cache. -/
import Derived.Test.YtnakbdgoaepehaaCachePut
namespace Go.Proofs.Ytnakbdgoaepehaa
open Go.RowKit Go.Cu
theorem zero73 (W : World) : (zeroValue 73).run Try.prog W = .ok (.pointer none) W := by kernel_rfl
theorem size73 : (Try.prog.info? 73).map (·.size) = some 1 := by kernel_rfl
theorem info73 : (Try.prog.info? 73).map (fun i => (i.zero, i.size, i.bytes)) = some (some (.pointer none), 1, 8) := by kernel_rfl
/-- A part of which nothing was asked. -/
def p0 : Pt := ⟨[], 0, 0⟩
theorem p0_ok (size : Nat) : p0.Ok size := ⟨List.nodup_nil, Nat.zero_le _⟩
theorem p0_short : Short p0 := fun y hy => by cases hy
set_option maxHeartbeats 1000000 in
theorem cnew_bad (w : World) {m s : Int} (h : m < 1 ∨ 8 < m ∨ s < 1 ∨ 256 < s) : Calls Try.prog 18 #[.int .i64 m, .int .i64 s] w fun r w' => r = .returned (.tuple #[.pointer none, .int .i64 1]) ∧ w = w' := by
  by_cases g0 : m < 1
  · clear h
    go_enter Try.func18, Try.ntmps18
    go_wp2
    go_ret2
    exact ⟨rfl, rfl⟩
  by_cases g1 : 8 < m
  · clear h
    go_enter Try.func18, Try.ntmps18
    go_wp2
    go_ret2
    exact ⟨rfl, rfl⟩
  by_cases g2 : s < 1
  · clear h
    go_enter Try.func18, Try.ntmps18
    go_wp2
    go_ret2
    exact ⟨rfl, rfl⟩
  have g3 : 256 < s := by omega
  clear h
  go_enter Try.func18, Try.ntmps18
  go_wp2
  go_ret2
  exact ⟨rfl, rfl⟩
section
variable {W0 W : World} {L : List Atm}
set_option maxRecDepth 20000 in
set_option maxHeartbeats 8000000 in
theorem cnew_st (h : St W0 L W) {m s : Nat} (h1 : 1 ≤ m) (h2 : m ≤ 8) (h3 : 1 ≤ s) (h4 : s ≤ 256) :
    Calls Try.prog 18 #[.int .i64 m, .int .i64 s] W fun r w' => ∃ g, r = .returned (.tuple #[ptrV g, .int .i64 0]) ∧ St W0 (CacheA 0 g s (List.replicate m p0) :: L) w' := by
  have g0 : ¬ (m : Int) < 1 := by omega
  have g1 : ¬ (8 : Int) < (m : Int) := by omega
  have g2 : ¬ (s : Int) < 1 := by omega
  have g3 : ¬ (256 : Int) < (s : Int) := by omega
  have HH := hid h
  obtain ⟨i73, hi, hiz, his, hib⟩ := info_parts info73
  have HI := hid (And.intro hi (And.intro hiz (And.intro his hib)))
  clear h hi hiz his hib
  go_enter Try.func18, Try.ntmps18
  go_wp2_with (refine wpList_box rfl 72 _ rfl (.agg #[.int .i64 s, .slice none 0 0]) rfl ?_; intro g W1 hb hl hg hW1; have H1 := hid (HH.out.newBlk hW1 hg hb); clear hb hl hg hW1)
  go_loopw [25] (fun kv X => ∃ (k : Nat) (v : Value) (qs : List (Nat × Pt)), k ≤ m ∧ kv = .int .i64 k ∧ qs.length = k ∧ Hid (qs.map (·.2) = List.replicate k p0) ∧ Hid (St W0 (cacheL 0 g s v qs ++ L) X)) (fun kv _ => m - (intOf kv).toNat)
  case atStart => exact ⟨0, .slice none 0 0, [], Nat.zero_le _, rfl, rfl, hid rfl, hid (H1.out.nilRow 73 1).at2⟩
  case round =>
    clear H1 HH
    obtain ⟨k, v, qs, hk, rfl, hql, HQ, HS⟩ := hrel
    by_cases hlt : k < m
    · have e1 : (k : Int) < (m : Int) := by omega
      obtain ⟨A, c, rfl, _⟩ := row_slice HS.out.at2
      have HQL := hid hql
      have hk8 : k ≤ 8 := by omega
      have HK := hid (show St W0 (Blk g #[.int .i64 s, .slice A k c] 72 :: Row (.slice A k c) 73 1 k (qs.map fun q => ptrV q.1) :: (qs.map (PartA 0) ++ L)) wr from by rw [← hql]; exact HS.out)
      obtain ⟨x0, x1⟩ := cache_cells (size := s) HK.out
      clear HS hql
      go_wp2_with (first | (refine wpList_newMap (P := Try.prog) (k := 9) (e := 9) rfl rfl HK.out ?_; intro bm w1 hs1 _; have H1 := hid hs1; clear hs1 x0 x1) | (refine wpList_box rfl 76 _ rfl (.agg #[.map (some bm), .slice none 0 0, .int .i64 0, .int .i64 0]) rfl ?_; intro gb w2 hb hl hg hW2; have H2 := hid (H1.out.newBlk hW2 hg hb); clear hb hl hg hW2) | (refine wpList_buildSlice1 _ rfl (.pointer (some ⟨gb, 0, none⟩)) (by simp [Act.eval, Act.put]) rfl Try.underlying70 zero73 size73 (by decide) (by decide) rfl ?_; intro gn X4 hS hgs hges hX1b; have H4 := hid (H2.out.turn hX1b); have HNW := hid (news_box hS [ptrV gb] rfl); clear hS hgs hges hX1b) | (refine wpList_append_at _ _ _ rfl (.slice A k c) rfl ⟨gn, 0, none⟩ 1 1 rfl rfl 73 i73 (.pointer none) 1 8 Try.underlying70 HI.out.1 HI.out.2.1 HI.out.2.2.1 HI.out.2.2.2 rfl (by decide) k _ H4.out.at4.row [ptrV gb] rfl HNW.out (by simp [Value.oneCell']) (by unfold maxLen; omega) (by omega) ?_; intro v' X5 hO2 hT2 hfr; have H5 := hid (H4.out.at4.grow hO2 hT2 hfr); clear hO2 hT2 hfr; obtain ⟨B1, d1, hv', _⟩ := row_slice H5.out; subst hv'; obtain ⟨x0, x1⟩ := cache_cells (size := s) H5.out.at4; have f1 := frozen_of_row X5 g 1 _ _ H5.out.at4.blk))
      have H6 := hid (H5.out.at4.setCell 1 (.slice B1 (k + 1) d1))
      clear x0 x1 f1 H5 H4 H2 H1 HK
      go_roundw
      case rel => exact ⟨k + 1, .slice B1 (k + 1) d1, qs ++ [(gb, p0)], by omega, by go_num, by rw [List.length_append, HQL.out]; rfl, hid (by rw [List.map_append, HQ.out, List.replicate_succ']; rfl), hid (by
        have e3 : (qs ++ [(gb, p0)]).length = k + 1 := by rw [List.length_append, HQL.out]; rfl
        unfold cacheL
        rw [e3, List.map_append, List.map_append]
        have h7 := H6.out.perm (M := Blk gb #[.map (some bm), .slice none 0 0, .int .i64 0, .int .i64 0] 76 :: MapA Try.prog 9 9 bm 0 (fun _ => none) :: (Blk g #[.int .i64 s, .slice B1 (k + 1) d1] 72 :: Row (.slice B1 (k + 1) d1) 73 1 (k + 1) ((qs.map fun q => ptrV q.1) ++ [ptrV gb]) :: (qs.map (PartA 0) ++ L))) (List.perm_append_comm (l₁ := [_, _]) (l₂ := [_, _]) |>.append_right _)
        have h8 := St.unpart (N := 0) (b := gb) (bm := bm) (n := 0) (v := .slice none 0 0) (p := p0) (h7.nilRow 9 1).back3 (Nat.le_refl 0)
        have h9 := h8.perm (List.perm_middle (l₁ := Blk g #[.int .i64 s, .slice B1 (k + 1) d1] 72 :: Row (.slice B1 (k + 1) d1) 73 1 (k + 1) ((qs.map fun q => ptrV q.1) ++ [ptrV gb]) :: qs.map (PartA 0))).symm
        simpa using h9)⟩
      case measure => simp [intOf]; omega
    · have e1 : ¬ (k : Int) < (m : Int) := by omega
      obtain rfl : k = m := by omega
      go_wp2_with fail
      go_ret2
      exact ⟨g, rfl, St.uncache (v := v) (qs := qs) HS.out HQ.out⟩
end
end Go.Proofs.Ytnakbdgoaepehaa
