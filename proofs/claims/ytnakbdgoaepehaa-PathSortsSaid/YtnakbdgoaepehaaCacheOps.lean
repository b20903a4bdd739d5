/- What a cache answers, call by call. -/
import Derived.Test.YtnakbdgoaepehaaCacheUse
import Derived.Test.YtnakbdgoaepehaaMapOps
import Derived.Test.YtnakbdgoaepehaaOrder
namespace Go.Proofs.Ytnakbdgoaepehaa
open Go.RowKit Go.Cu
/-- The texts of a part are texts. -/
def Short (p : Pt) : Prop := ∀ x, x ∈ p.l → x.1.length ≤ maxLen ∧ x.2.length ≤ maxLen
theorem part_hit (bm : Nat) (v : Value) (p : Pt) : (partV bm v p).setIfInBounds 2 (.int .i64 (p.hits + 1)) = partV bm v { p with hits := p.hits + 1 } := by
  unfold partV
  simp
theorem part_miss (bm : Nat) (v : Value) (p : Pt) : (partV bm v p).setIfInBounds 3 (.int .i64 (p.misses + 1)) = partV bm v { p with misses := p.misses + 1 } := by
  unfold partV
  simp
section
variable {W0 W : World} {L : List Atm} {N g size : Nat} {ps : List Pt}
set_option maxRecDepth 20000 in
set_option maxHeartbeats 4000000 in
theorem chits_st (h : St W0 (CacheA N g size ps :: L) W) {i : Nat} (hi : i < ps.length) :
    Calls Try.prog 24 #[ptrV g, .int .i64 i] W fun r w' => r = .returned (.tuple #[.int .i64 ps[i].hits, .int .i64 ps[i].misses]) ∧ St W0 (CacheA N g size ps :: L) w' := by
  obtain ⟨b, M, h1, hM, hback⟩ := h.cacheIn hi
  obtain ⟨p, hp⟩ : ∃ p, p = ps[i] := ⟨_, rfl⟩
  rw [← hp] at h1 ⊢
  have HB := hid (fun X (hX : St W0 (PartA N (b, p) :: (M ++ L)) X) => show St W0 (CacheA N g size ps :: L) X from by
    have := hback X L p N (Nat.le_refl _) hX
    rwa [hp, List.set_getElem_self] at this)
  obtain ⟨bm, n, v, hn, h2⟩ := h1.part
  have HN := hid hn
  have HM := hid hM
  have H2 := hid (show St W0 (Blk b (partV bm v p) 76 :: MapA Try.prog 9 9 bm n (lookF p.l) :: Row v 9 1 p.l.length ((names p.l).map sv) :: (M ++ L)) W from h2)
  clear h1 h2 hM hback h hn hp
  go_enter Try.func24, Try.ntmps24
  go_wp2_with (go_at_call 34; (with_reducible refine (HM.out _ _ H2.out.drop.drop.drop).2.mono ?_); rintro r w1 ⟨rfl, rfl⟩)
  refine wp_region_ord [] [(0, 1), (1, 1), (2, 1), (3, 1), (4, 1), (5, 1), (6, 1), (7, 1), (8, 1), (9, 1)] (fun X => St W0 (Blk b (partV bm v p) 76 :: MapA Try.prog 9 9 bm n (lookF p.l) :: Row v 9 1 p.l.length ((names p.l).map sv) :: (M ++ L)) X) (by kernel_rfl) (by kernel_rfl) (fun d _ c _ _ h => by cases d <;> exact h) (H2.out.turn (Below.drew (Below.refl _ _))) (fun X hXe hX => ?_)
  clear hXe H2
  have HPC := hid (fun X (hX : St W0 (Blk b (partV bm v p) 76 :: MapA Try.prog 9 9 bm n (lookF p.l) :: Row v 9 1 p.l.length ((names p.l).map sv) :: (M ++ L)) X) => part_cells hX)
  repeat (apply wpOrd_class; ((· first | (rw [List.getElem?_toArray, List.getElem?_cons_zero]; done) | (simp only [List.getElem?_toArray, List.getElem?_cons_succ, List.getElem?_cons_zero]; exact rfl))); (· exact rfl); intro K hK; apply Exists.intro; refine And.intro (fun X' hX' => ?_) ?_; (· obtain ⟨hq1, hq2, hq3, hq4⟩ := HPC.out _ hX'; clear hX'; go_simp; (try go_bits); first | done | exact rfl | exact ⟨rfl, rfl⟩); go_simp; refine hK _ _ ?_; clear hK K)
  refine wpOrd_done ?_
  go_wp2_with fail
  go_ret2
  exact ⟨rfl, HB.out _ (St.unpart hX HN.out)⟩
set_option maxRecDepth 20000 in
set_option maxHeartbeats 4000000 in
theorem cget_st (h : St W0 (CacheA N g size ps :: L) W) {i : Nat} (hi : i < ps.length) (ho : ps[i].Ok size) (hs : size ≤ 256) (hh : ps[i].hits + ps[i].misses ≤ 1000000) {k : Str} (hk : k.length ≤ maxLen) :
    Calls Try.prog 23 #[ptrV g, .int .i64 i, .string (strB k)] W fun r w' => r = .returned (.tuple #[.string (strB ((ps[i].get k).1.getD [])), .bool (ps[i].get k).1.isSome]) ∧ St W0 (CacheA N g size (ps.set i (ps[i].get k).2) :: L) w' := by
  obtain ⟨b, M, h1, hM, hback⟩ := h.cacheIn hi
  obtain ⟨p, hp⟩ : ∃ p, p = ps[i] := ⟨_, rfl⟩
  rw [← hp] at h1 ho hh ⊢
  have HB := hid (fun X p' (hX : St W0 (PartA N (b, p') :: (M ++ L)) X) => hback X L p' N (Nat.le_refl _) hX)
  obtain ⟨bm, n, v, hn, h2⟩ := h1.part
  have HN := hid hn
  have HM := hid hM
  have H2 := hid (show St W0 (Blk b (partV bm v p) 76 :: MapA Try.prog 9 9 bm n (lookF p.l) :: Row v 9 1 p.l.length ((names p.l).map sv) :: (M ++ L)) W from h2)
  have HOK := hid ho
  have HK := hid hk
  have hfew := ho.few
  obtain ⟨x0, x1, x2, x3⟩ := part_cells H2.out
  have hh1 : (p.hits : Int) ≤ 1000000 := by omega
  have hh2 : (p.misses : Int) ≤ 1000000 := by omega
  clear h1 h2 hM hback h hn hp ho hk
  cases hlk : seek k p.l with
  | none =>
    have hget : p.get k = (none, { p with misses := p.misses + 1 }) := by unfold Pt.get; rw [hlk]
    rw [hget]
    have HLK := hid hlk
    have f3 := frozen_of_row W b 3 _ _ H2.out.blk
    clear hget hlk
    go_enter Try.func23, Try.ntmps23
    go_wp2_with (first | (go_at_call 34; (with_reducible refine (HM.out _ _ H2.out.drop.drop.drop).2.mono ?_); rintro r w1 ⟨rfl, rfl⟩) | (at_lookup; refine wpList_seek rfl _ _ rfl Try.underlying74 Try.underlying9 Try.underlying9 (zero9 _) H2.out.at2 rfl k rfl HK.out ?_; rw [show lookF p.l k = none from HLK.out]))
    go_ret2
    refine ⟨rfl, HB.out _ _ (St.unpart (bm := bm) (n := n) (v := v) ?_ HN.out)⟩
    have h3 := H2.out.setCell 3 (.int .i64 (p.misses + 1))
    rw [part_miss] at h3
    exact h3
  | some x =>
    have hm : k ∈ names p.l := Decidable.byContradiction fun hc => by rw [seek_names.2 hc] at hlk; cases hlk
    have hm2 : k ∈ keys p.l := Decidable.byContradiction fun hc => by rw [seek_none.2 hc] at hlk; cases hlk
    have hget : p.get k = (some x, { p with l := (k, x) :: without k p.l, hits := p.hits + 1 }) := by unfold Pt.get; rw [hlk]
    rw [hget]
    have HLK := hid hlk
    have hlen : (without k p.l).length + 1 = p.l.length := length_front hm2 x HOK.out.once
    have HLN := hid hlen
    have f2 := frozen_of_row W b 2 _ _ H2.out.blk
    have HU := hid (fun X (p9 : Pt) (hl9 : p9.l = p.l) (hX : St W0 (Blk b (partV bm v p9) 76 :: Row v 9 1 p9.l.length ((names p9.l).map sv) :: MapA Try.prog 9 9 bm n (lookF p.l) :: (M ++ L)) X) => use_st hX (by rw [hl9]; exact HOK.out.once) (by rw [hl9]; omega) k)
    clear hget hlk hm hm2 hlen
    go_enter Try.func23, Try.ntmps23
    go_upto_region 9 with (first | (go_at_call 34; (with_reducible refine (HM.out _ _ H2.out.drop.drop.drop).2.mono ?_); rintro r w1 ⟨rfl, rfl⟩) | (at_lookup; refine wpList_seek rfl _ _ rfl Try.underlying74 Try.underlying9 Try.underlying9 (zero9 _) H2.out.at2 rfl k rfl HK.out ?_; rw [show lookF p.l k = some x from HLK.out]))
    have H3 := hid (show St W0 (Blk b (partV bm v { p with hits := p.hits + 1 }) 76 :: Row v 9 1 p.l.length ((names p.l).map sv) :: MapA Try.prog 9 9 bm n (lookF p.l) :: (M ++ L)) _ from by rw [← part_hit]; exact (H2.out.setCell 2 (.int .i64 (p.hits + 1))).at3.at2)
    clear x0 x1 x2 x3 f2 H2
    go_wp2_with (go_at_call 35; (with_reducible refine (HU.out _ { p with hits := p.hits + 1 } rfl H3.out).mono ?_); rintro r w2 ⟨rfl, v2, hs2⟩; have H4 := hid hs2; clear hs2)
    go_ret2
    refine ⟨rfl, HB.out _ _ (St.unpart (bm := bm) (n := n) (v := v2) ?_ HN.out)⟩
    have h4 := H4.out.at3.at2
    rw [HLN.out, ← names_front k x] at h4
    show St W0 (Blk b (partV bm v2 { p with l := (k, x) :: without k p.l, hits := p.hits + 1 }) 76 :: MapA Try.prog 9 9 bm n (lookF ((k, x) :: without k p.l)) :: Row v2 9 1 ((k, x) :: without k p.l).length ((names ((k, x) :: without k p.l)).map sv) :: (M ++ L)) _
    rw [show lookF ((k, x) :: without k p.l) = lookF p.l from by
      unfold lookF
      rw [seek_front]
      funext j
      by_cases hj : j = k
      · subst hj; rw [if_pos rfl]; exact HLK.out.symm
      · rw [if_neg hj], List.length_cons, HLN.out]
    exact h4
end
end Go.Proofs.Ytnakbdgoaepehaa
