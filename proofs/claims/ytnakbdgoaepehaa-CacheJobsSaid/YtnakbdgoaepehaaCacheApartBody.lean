/- CacheApart: the walk. -/
import Derived.Test.YtnakbdgoaepehaaCacheJob
namespace Go.Proofs.Ytnakbdgoaepehaa
open Go.RowKit Go.Cu
/-- How much was asked of a part. -/
def Pt.asked (p : Pt) : Nat := p.hits + p.misses
theorem get_asked (p : Pt) (k : Str) : Pt.asked (p.get k).2 = Pt.asked p + 1 := by
  unfold Pt.get Pt.asked
  split <;> simp <;> omega
set_option maxRecDepth 20000 in
set_option maxHeartbeats 8000000 in
theorem capart_walk {A : Option Addr} {c : Nat} {mine : List CJob} {B : Option Addr} {d : Nat} {other : List CJob} (w : World) (hm : CJobsIn w A mine) (ho : CJobsIn w B other) :
    Calls Try.prog 7 #[.slice A mine.length c, .slice B other.length d] w fun x w' => x = .returned (.bool true) ∧ Below w.heap.size w w' := by
  have HM := hid hm
  have HO := hid ho
  have HN := hid (fun X (M : List Atm) (hX : St w M X) => show Calls Try.prog 18 #[.int .i64 2, .int .i64 3] X fun r w' => ∃ g, r = .returned (.tuple #[ptrV g, .int .i64 0]) ∧ St w (CacheA 0 g 3 [p0, p0] :: M) w' from cnew_st (m := 2) (s := 3) hX (by decide) (by decide) (by decide) (by decide))
  have HC := hid (fun X (M : List Atm) (hX : St w M X) => caches_st hX)
  clear hm ho
  go_enter Try.func7, Try.ntmps7
  go_wp2_with (first | (go_at_call 18; first | ((with_reducible refine (HN.out _ _ H1.out).mono ?_); rintro r w2 ⟨gb, rfl, hs2⟩; have H2 := hid hs2; clear hs2) | ((with_reducible refine (HN.out _ _ (St.start w)).mono ?_); rintro r w1 ⟨ga, rfl, hs1⟩; have H1 := hid hs1; clear hs1)) | (go_at_call 19; (with_reducible refine (HC.out _ _ H2.out).mono ?_); rintro r w3 ⟨rfl, hs⟩; have H3 := hid hs; clear hs))
  clear H1 H2 HN HC
  go_loopw [9, 10, 11, 12, 13, 14, 15, 16, 17, 18] (fun kv _ _ _ _ _ _ _ _ _ X => ∃ (k : Nat) (p q : Pt), k ≤ 40 ∧ kv = .int .i64 k ∧ Hid (p.Ok 3 ∧ Short p ∧ Pt.asked p ≤ k) ∧ Hid (q.Ok 3 ∧ Short q ∧ Pt.asked q ≤ k) ∧ Hid (St w [CacheA (2 * k) gb 3 [p, q], CacheA k ga 3 [p, p0]] X)) (fun kv _ _ _ _ _ _ _ _ _ _ => 40 - (intOf kv).toNat)
  case atStart => exact ⟨0, p0, p0, Nat.zero_le _, rfl, hid ⟨p0_ok 3, p0_short, Nat.le_refl _⟩, hid ⟨p0_ok 3, p0_short, Nat.le_refl _⟩, H3⟩
  case round =>
    clear H3
    obtain ⟨k, p, q, hk, rfl, HP, HQ, HS⟩ := hrel
    have k0 : (0 : Int) ≤ (k : Int) := by omega
    by_cases hk1 : k < mine.length
    · have f1 : (k : Int) < (mine.length : Int) := by omega
      by_cases hk2 : k < 40
      · have f2 : (k : Int) < 40 := by omega
        go_upto_if 50 with fail
        go_cut [] (fun wx => ∃ q2 : Pt, Hid (q2.Ok 3 ∧ Short q2 ∧ Pt.asked q2 ≤ k + 1) ∧ Hid (St w [CacheA (2 * k + 1) gb 3 [p, q2], CacheA k ga 3 [p, p0]] wx))
        case first =>
          by_cases hk3 : k < other.length
          · have f3 : (k : Int) < (other.length : Int) := by omega
            obtain ⟨j, hj⟩ : ∃ j, other[k]? = some j := ⟨_, List.getElem?_eq_getElem hk3⟩
            obtain ⟨g, o, rfl, hgl, hn1, hn2, b1, b2, b3, b4, c0, c1, c2, c3⟩ := HO.out k j hj
            have HF := hid (show ∀ X M, St w M X → X.cell? ⟨g, o + k * 4, none⟩ = some (.int .i64 j.what) ∧ X.cell? ⟨g, o + k * 4 + 2, none⟩ = some (.string (strB j.name)) ∧ X.cell? ⟨g, o + k * 4 + 3, none⟩ = some (.string (strB j.kept)) from fun X M hX => ⟨(hX.below.cell (p := ⟨g, o + k * 4, none⟩) hgl).trans c0, (hX.below.cell (p := ⟨g, o + k * 4 + 2, none⟩) hgl).trans c2, (hX.below.cell (p := ⟨g, o + k * 4 + 3, none⟩) hgl).trans c3⟩)
            obtain ⟨q1, hq1⟩ : ∃ q1, q1 = q.put 3 j.name j.kept := ⟨_, rfl⟩
            obtain ⟨q2, hq2⟩ : ∃ q2, q2 = (q1.get j.kept).2 := ⟨_, rfl⟩
            have HQ1 := hid (show q1.Ok 3 ∧ Short q1 ∧ Pt.asked q1 ≤ k by rw [hq1]; exact ⟨HQ.out.1.put _ _, HQ.out.2.1.put hn1 hn2, HQ.out.2.2⟩)
            have HQ2 := hid (show q2.Ok 3 ∧ Short q2 ∧ Pt.asked q2 ≤ k + 1 by rw [hq2]; exact ⟨HQ1.out.1.get _, HQ1.out.2.1.get _, by rw [get_asked]; have := HQ1.out.2.2; omega⟩)
            have HPU := hid (fun X (M : List Atm) (hX : St w (CacheA (2 * k) gb 3 [p, q] :: M) X) => show Calls Try.prog 20 #[ptrV gb, .int .i64 1, .string (strB j.name), .string (strB j.kept)] X fun r w' => r = .returned (.int .i64 0) ∧ St w (CacheA (2 * k + 1) gb 3 [p, q1] :: M) w' from by
              rw [hq1]; exact cput_st (i := 1) hX (by show 1 < 2; decide) HQ.out.1 HQ.out.2.1 (by decide) (by omega) hn1 hn2)
            have HGE := hid (fun X (M : List Atm) (hX : St w (CacheA (2 * k + 1) gb 3 [p, q1] :: M) X) => show Calls Try.prog 23 #[ptrV gb, .int .i64 1, .string (strB j.kept)] X fun r w' => (∃ a b, r = .returned (.tuple #[.string a, .bool b])) ∧ St w (CacheA (2 * k + 1) gb 3 [p, q2] :: M) w' from by
              rw [hq2]; exact (cget_st (i := 1) hX (by show 1 < 2; decide) HQ1.out.1 (by decide) (by have := HQ1.out.2.2; unfold Pt.asked at this; show q1.hits + q1.misses ≤ _; omega) hn2).mono fun r w' hx => ⟨⟨_, _, hx.1⟩, hx.2⟩)
            have HDR := hid (fun X (M : List Atm) (hX : St w (CacheA (2 * k + 1) gb 3 [p, q2] :: M) X) => show Calls Try.prog 25 #[ptrV gb, .int .i64 1] X fun r w' => r = .returned (.int .i64 0) ∧ St w (CacheA (2 * k + 1) gb 3 [p, q2.drop] :: M) w' from cdrop_st (i := 1) hX (by show 1 < 2; decide))
            obtain ⟨t, ht⟩ : ∃ t, j.what.tmod 5 = t := ⟨_, rfl⟩
            clear hj c0 c1 c2 c3 hq1 hq2 hn1 hn2
            go_wp2_with fail
            refine wp_region_ord [] [(0, 1), (1, 1), (2, 1), (3, 1), (4, 1), (5, 1), (6, 1), (7, 1), (8, 1), (9, 1), (10, 1), (11, 2)] (fun X => ∃ N q9, St w [CacheA N gb 3 [p, q9], CacheA k ga 3 [p, p0]] X) (by kernel_rfl) (by kernel_rfl) (fun d _ c _ _ h => by cases d <;> exact h) ⟨_, _, HS.out.turn (Below.drew (Below.refl _ _))⟩ (fun X hXe _ => ?_)
            have HX := hid (show St w [CacheA (2 * k) gb 3 [p, q], CacheA k ga 3 [p, p0]] X from by rw [hXe]; exact HS.out.turn (Below.drew (Below.refl _ _)))
            have HF2 := hid (show ∀ X, (∃ N q9, St w [CacheA N gb 3 [p, q9], CacheA k ga 3 [p, p0]] X) → X.cell? ⟨g, o + k * 4, none⟩ = some (.int .i64 j.what) ∧ X.cell? ⟨g, o + k * 4 + 2, none⟩ = some (.string (strB j.name)) ∧ X.cell? ⟨g, o + k * 4 + 3, none⟩ = some (.string (strB j.kept)) from fun X ⟨_, _, hX⟩ => HF.out X _ hX)
            clear hXe HS
            repeat (apply wpOrd_class; ((· first | (rw [List.getElem?_toArray, List.getElem?_cons_zero]; done) | (simp only [List.getElem?_toArray, List.getElem?_cons_succ, List.getElem?_cons_zero]; exact rfl))); (· exact rfl); intro K hK; apply Exists.intro; refine And.intro (fun X' hX' => ?_) ?_; (· obtain ⟨hq1, hq2, hq3⟩ := HF2.out _ hX'; clear hX'; go_simp; (try go_bits); first | done | exact rfl | exact ⟨rfl, rfl⟩); go_simp; refine hK _ _ ?_; clear hK K)
            (apply wpOrd_comes; ((· first | (rw [List.getElem?_toArray, List.getElem?_cons_zero]; done) | (simp only [List.getElem?_toArray, List.getElem?_cons_succ, List.getElem?_cons_zero]; exact rfl))); intro N hN)
            go_wp2_with (go_at_call 20; (with_reducible refine (HPU.out _ _ HX.out).mono ?_); rintro r w4 ⟨rfl, hs4⟩; have H4 := hid hs4; clear hs4)
            refine hN _ _ (fun _ => ⟨_, _, H4.out⟩) ?_
            clear hN N HF2
            refine wpOrd_done ?_
            obtain ⟨x0, x2, x3⟩ := HF.out _ _ H4.out
            go_upto_region 11 with (go_at_call 23; (with_reducible refine (HGE.out _ _ H4.out).mono ?_); rintro r w5 ⟨⟨a5, b5, rfl⟩, hs5⟩; have H5 := hid hs5; clear hs5 x0 x2 x3)
            obtain ⟨x0, x2, x3⟩ := HF.out _ _ H5.out
            by_cases ht0 : t = 0
            · subst ht0
              go_wp2_with (go_at_call 25; (with_reducible refine (HDR.out _ _ H5.out).mono ?_); rintro r w6 ⟨rfl, hs6⟩; have H6 := hid hs6; clear hs6)
              go_meet
              case rel => exact ⟨q2.drop, hid ⟨Pt.Ok.drop 3, Short.drop q2, HQ2.out.2.2⟩, H6⟩
            · go_wp2_with fail
              go_meet
              case rel => exact ⟨q2, HQ2, H5⟩
          · have f3 : ¬ (k : Int) < (other.length : Int) := by omega
            go_wp2_with fail
            go_meet
            case rel => exact ⟨q, hid ⟨HQ.out.1, HQ.out.2.1, by have := HQ.out.2.2; omega⟩, hid (HS.out.more (by omega))⟩
        case rest =>
          clear HS HQ
          obtain ⟨q2, HQ, HS⟩ := hcut
          obtain ⟨j, hj⟩ : ∃ j, mine[k]? = some j := ⟨_, List.getElem?_eq_getElem hk1⟩
          obtain ⟨g, o, rfl, hgl, hn1, hn2, b1, b2, b3, b4, c0, c1, c2, c3⟩ := HM.out k j hj
          have d0 := (HS.out.below.cell (p := ⟨g, o + k * 4, none⟩) hgl).trans c0
          have d1 := (HS.out.below.cell (p := ⟨g, o + k * 4 + 1, none⟩) hgl).trans c1
          have d2 := (HS.out.below.cell (p := ⟨g, o + k * 4 + 2, none⟩) hgl).trans c2
          have d3 := (HS.out.below.cell (p := ⟨g, o + k * 4 + 3, none⟩) hgl).trans c3
          clear hj c0 c1 c2 c3
          obtain ⟨t, ht⟩ : ∃ t, j.what.tmod 2 = t := ⟨_, rfl⟩
          go_upto_if 86 with (first | (refine wpList_alloc 56 rfl rfl zero56v zero56 ?_; intro gj W1 hJ hjl hjg hW1) | (refine wpList_store_box 56 _ _ rfl gj rfl rfl (cjobV j) rfl 4 size56 rfl (cjobV_one j) 56 _ hJ rfl ?_; intro W2 hJ2 hT2 hs2; obtain ⟨e0, e1, e2, e3⟩ := cjob_cells hJ2; have H2 := hid ((HS.out.newBlk hW1 hjg hJ).put hJ2 hT2).back3))
          go_cut [] (fun wx => ∃ p2 : Pt, Hid (p2.Ok 3 ∧ Short p2 ∧ Pt.asked p2 ≤ k) ∧ Hid (St w [CacheA (2 * k + 2) gb 3 [p2, q2], CacheA (k + 1) ga 3 [p2, p0], Blk gj (cjobV j) 56] wx))
          case first =>
            by_cases ht0 : t = 0
            · subst ht0
              obtain ⟨p2, hp2⟩ : ∃ p2, p2 = p.put 3 j.name j.kept := ⟨_, rfl⟩
              have HP2 := hid (show p2.Ok 3 ∧ Short p2 ∧ Pt.asked p2 ≤ k by rw [hp2]; exact ⟨HP.out.1.put _ _, HP.out.2.1.put hn1 hn2, HP.out.2.2⟩)
              have HPA := hid (fun X (M : List Atm) (hX : St w (CacheA k ga 3 [p, p0] :: M) X) => show Calls Try.prog 20 #[ptrV ga, .int .i64 0, .string (strB j.name), .string (strB j.kept)] X fun r w' => r = .returned (.int .i64 0) ∧ St w (CacheA (k + 1) ga 3 [p2, p0] :: M) w' from by
                rw [hp2]; exact cput_st (i := 0) hX (by show 0 < 2; decide) HP.out.1 HP.out.2.1 (by decide) (by omega) hn1 hn2)
              have HPB := hid (fun X (M : List Atm) (hX : St w (CacheA (2 * k + 1) gb 3 [p, q2] :: M) X) => show Calls Try.prog 20 #[ptrV gb, .int .i64 0, .string (strB j.name), .string (strB j.kept)] X fun r w' => r = .returned (.int .i64 0) ∧ St w (CacheA (2 * k + 2) gb 3 [p2, q2] :: M) w' from by
                rw [hp2]; exact cput_st (i := 0) hX (by show 0 < 2; decide) HP.out.1 HP.out.2.1 (by decide) (by omega) hn1 hn2)
              clear hp2
              go_wp2_with (go_at_call 20; first | ((with_reducible refine (HPB.out _ _ H3.out.at2).mono ?_); rintro r w4 ⟨rfl, hs4⟩; have H4 := hid hs4; clear hs4) | ((with_reducible refine (HPA.out _ _ H2.out.at2).mono ?_); rintro r w3 ⟨rfl, hs3⟩; have H3 := hid hs3; clear hs3; obtain ⟨e0, e1, e2, e3⟩ := cjob_cells H3.out.at3.blk))
              go_meet
              case rel => exact ⟨p2, HP2, H4⟩
            · go_wp2_with fail
              go_meet
              case rel => exact ⟨p, HP, hid (((H2.out.more (by omega)).at2.more (by omega)).at2)⟩
          case rest =>
            clear H2 HS HP d0 d1 d2 d3 e0 e1 e2 e3
            obtain ⟨p2, HP, HS⟩ := hcut
            obtain ⟨e0, e1, e2, e3⟩ := cjob_cells HS.out.at3.blk
            obtain ⟨p3, hp3⟩ : ∃ p3, p3 = (p2.get j.name).2 := ⟨_, rfl⟩
            obtain ⟨sx, hsx⟩ : ∃ sx, sx = strB ((p2.get j.name).1.getD []) := ⟨_, rfl⟩
            obtain ⟨bx, hbx⟩ : ∃ bx, bx = (p2.get j.name).1.isSome := ⟨_, rfl⟩
            have HP3 := hid (show p3.Ok 3 ∧ Short p3 ∧ Pt.asked p3 ≤ k + 1 by rw [hp3]; exact ⟨HP.out.1.get _, HP.out.2.1.get _, by rw [get_asked]; have := HP.out.2.2; omega⟩)
            have hask : p2.hits + p2.misses ≤ 1000000 := by have := HP.out.2.2; unfold Pt.asked at this; omega
            have HGA := hid (fun X (M : List Atm) (hX : St w (CacheA (k + 1) ga 3 [p2, p0] :: M) X) => show Calls Try.prog 23 #[ptrV ga, .int .i64 0, .string (strB j.name)] X fun r w' => r = .returned (.tuple #[.string sx, .bool bx]) ∧ St w (CacheA (k + 1) ga 3 [p3, p0] :: M) w' from by
              rw [hp3, hsx, hbx]; exact cget_st (i := 0) hX (by show 0 < 2; decide) HP.out.1 (by decide) hask hn1)
            have HGB := hid (fun X (M : List Atm) (hX : St w (CacheA (2 * k + 2) gb 3 [p2, q2] :: M) X) => show Calls Try.prog 23 #[ptrV gb, .int .i64 0, .string (strB j.name)] X fun r w' => r = .returned (.tuple #[.string sx, .bool bx]) ∧ St w (CacheA (2 * k + 2) gb 3 [p3, q2] :: M) w' from by
              rw [hp3, hsx, hbx]; exact cget_st (i := 0) hX (by show 0 < 2; decide) HP.out.1 (by decide) hask hn1)
            have HHA := hid (fun X (M : List Atm) (hX : St w (CacheA (k + 1) ga 3 [p3, p0] :: M) X) => show Calls Try.prog 24 #[ptrV ga, .int .i64 0] X fun r w' => r = .returned (.tuple #[.int .i64 p3.hits, .int .i64 p3.misses]) ∧ St w (CacheA (k + 1) ga 3 [p3, p0] :: M) w' from chits_st (i := 0) hX (by show 0 < 2; decide))
            have HHB := hid (fun X (M : List Atm) (hX : St w (CacheA (2 * k + 2) gb 3 [p3, q2] :: M) X) => show Calls Try.prog 24 #[ptrV gb, .int .i64 0] X fun r w' => r = .returned (.tuple #[.int .i64 p3.hits, .int .i64 p3.misses]) ∧ St w (CacheA (2 * k + 2) gb 3 [p3, q2] :: M) w' from chits_st (i := 0) hX (by show 0 < 2; decide))
            clear hp3 hsx hbx hask ht
            go_wp2_with (first | (go_at_call 23; first | ((with_reducible refine (HGB.out _ _ H3.out.at2).mono ?_); rintro r w4 ⟨rfl, hs4⟩; have H4 := hid hs4; clear hs4) | ((with_reducible refine (HGA.out _ _ HS.out.at2).mono ?_); rintro r w3 ⟨rfl, hs3⟩; have H3 := hid hs3; clear hs3; obtain ⟨e0, e1, e2, e3⟩ := cjob_cells H3.out.at3.blk)) | (go_at_call 24; first | ((with_reducible refine (HHB.out _ _ H5.out.at2).mono ?_); rintro r w6 ⟨rfl, hs6⟩; have H6 := hid hs6; clear hs6) | ((with_reducible refine (HHA.out _ _ H4.out.at2).mono ?_); rintro r w5 ⟨rfl, hs5⟩; have H5 := hid hs5; clear hs5)))
            go_roundw
            case rel => exact ⟨k + 1, p3, q2, by omega, by go_num, HP3, HQ, hid (show St w [CacheA (2 * (k + 1)) gb 3 [p3, q2], CacheA (k + 1) ga 3 [p3, p0]] w6 from H6.out.at3.drop)⟩
            case measure => simp [intOf]; omega
      · have f2 : ¬ (k : Int) < 40 := by omega
        go_wp2_with fail
        go_ret
        exact ⟨rfl, HS.out.below⟩
    · have f1 : ¬ (k : Int) < (mine.length : Int) := by omega
      go_wp2_with fail
      go_ret
      exact ⟨rfl, HS.out.below⟩
end Go.Proofs.Ytnakbdgoaepehaa
