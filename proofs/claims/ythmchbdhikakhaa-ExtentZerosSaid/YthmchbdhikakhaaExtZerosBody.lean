/- ExtentZeros: the walk. -/
import Derived.Test.YthmchbdhikakhaaExtZerosPlain
namespace Go.Proofs.Ythmchbdhikakhaa
open Go.RowKit Go.Cu
abbrev exZ : Ex := ⟨2, 4, 4⟩
theorem exZ_ok : exZ.Ok 20 := ⟨by decide, by decide, by decide, by decide, by decide, by decide⟩
set_option maxRecDepth 20000 in
set_option maxHeartbeats 16000000 in
theorem zeros_walk {row : List WrD} {F0 : Option Addr} {c0 : Nat} {which : Int} {keep : List Bool} {K0 : Option Addr} {ck : Nat} (w : World) (hr : WritesIn w F0 row) (hk : KeepIn w K0 keep) (hkl : keep.length ≤ 9223372036854775807) :
    Calls Try.prog 8 #[.slice F0 row.length c0, .int .i64 which, .slice K0 keep.length ck] w fun x w' => x = .returned (.bool true) ∧ Below w.heap.size w w' := by
  have HR := hid hr
  have HK := hid hk
  have HXN := hid (fun (X : World) (p : Nat) (hX : St w [Disk p (DS.new 20)] X) => xnew_ok (f := 2) (c := 4) (s := 4) (e := exZ) hX exZ_ok rfl rfl rfl)
  obtain ⟨wh, ew, hw4⟩ := u64_rem which 4 (by decide)
  simp only [Int.cast_ofNat_Int] at ew
  have HEW := hid ew
  clear hr hk ew
  go_enter Try.func8, Try.ntmps8
  go_upto_block 0 with (first | (go_at_call 13; (with_reducible refine (new_sti (St.start w) (m := 20) (n := 20) rfl (by decide) (by decide)).mono ?_); rintro r w1 ⟨p, rfl, hs1⟩; have H1 := hid hs1; clear hs1) | (go_at_call 30; (with_reducible refine (HXN.out _ _ H1.out).mono ?_); rintro r w2 ⟨x, rfl, hs2⟩; have H2 := hid hs2; clear hs2) | (go_at_call 31; (with_reducible refine (extents_st H2.out).mono ?_); rintro r w3 ⟨rfl, hs3⟩; have H3 := hid hs3; clear hs3) | (refine wpList_alloc 75 rfl rfl _ zero75 ?_; intro gw W4 hG hgl hgg hW4; have H4 := hid ((H3.out.at2.newBlk hW4 hgg hG).back3); clear hG hgl hgg hW4))
  go_cut [] (fun wx => ∃ (N : Nat) (l : List UInt8) (S : DS), N ≤ 30 ∧ Hid (l.length = 20) ∧ Hid (Flatd (gZ l) N S) ∧ Hid (St w [Disk p S, Blk x (extV p exZ) 111, Blk gw (bv l) 75] wx))
  case first =>
    go_wp2_with fail
    go_loopw [12, 13] (fun i _ X => ∃ k : Nat, k ≤ 30 ∧ i = .int .i64 k ∧ ∃ (l : List UInt8) (S : DS), Hid (l.length = 20) ∧ Hid (Flatd (gZ l) k S) ∧ Hid (St w [Disk p S, Blk x (extV p exZ) 111, Blk gw (bv l) 75] X)) (fun i _ _ => 30 - (intOf i).toNat)
    case atStart => exact ⟨0, by omega, rfl, List.replicate 20 0, DS.new 20, hid (by simp), hid (by rw [gZ_start]; exact Flatd.new (by decide)), H4⟩
    case round =>
      clear H1 H2 H3 H4 HXN
      obtain ⟨k, hk, rfl, l, S, HL, HG, HS⟩ := hrel
      by_cases hlt : k < row.length ∧ k < 30
      · obtain ⟨hkr, hk30⟩ := hlt
        have e1 : (k : Int) < (row.length : Int) := by omega
        have e2 : (k : Int) < 30 := by omega
        obtain ⟨j, hj⟩ : ∃ j, row[k]? = some j := ⟨_, List.getElem?_eq_getElem hkr⟩
        obtain ⟨g, o, rfl, hg, b1, b2, c0, c1⟩ := HR.out k j hj
        have d0 := (HS.out.below.cell (p := ⟨g, o + k * 2, none⟩) hg).trans c0
        have d1 := (HS.out.below.cell (p := ⟨g, o + k * 2 + 1, none⟩) hg).trans c1
        have HC1 := hid c1
        obtain ⟨a, ea, ha20⟩ := u64_rem j.at_ 20 (by decide)
        simp only [Int.cast_ofNat_Int] at ea
        have ha1 : (a : Int) < 20 := by omega
        have ha0 : (0 : Int) ≤ (a : Int) := by omega
        have BB := fun W => run_buildK (build33_tail j.by_ W)
        clear c0 c1 hj
        go_wp2_with (go_at_call 15; (with_reducible refine (write_st HS.out HG.out.ok (by omega) _ (tailB_len j.by_)).mono ?_); rintro r w5 ⟨rfl, hs5⟩; have ct : w5.cell? ⟨gw, a, none⟩ = some (.int .u8 (bt l a)) := (blk_cell hs5.at3 a).trans (bv_get l a (by rw [HL.out]; exact ha20)); have ft : w5.frozen? ⟨gw, a, none⟩ = false := frozen_of_row w5 gw a _ _ hs5.at3.blk; have d2 := (hs5.below.cell (p := ⟨g, o + k * 2 + 1, none⟩) hg).trans HC1.out; have HS5 := hid hs5; clear hs5)
        go_roundw
        case rel =>
          refine ⟨k + 1, by omega, by go_num, l.set a j.by_, (S.write (a : Int) (tailB j.by_)).1, hid (by rw [List.length_set]; exact HL.out), hid ?_, hid ?_⟩
          · rw [← gZ_set]
            exact (HG.out.write (by unfold gZ; rw [List.length_map, HL.out]; exact ha20) (tailB_len _)).1
          · rw [← bv_set]
            exact (HS5.out.at3.setCell a (.int .u8 j.by_.toNat)).back3
        case measure => simp [intOf]; omega
      · by_cases hkr : k < row.length
        · have e1 : (k : Int) < (row.length : Int) := by omega
          have e2 : ¬ (k : Int) < 30 := by omega
          clear hlt
          go_wp2_with fail
          go_meet
          exact ⟨k, l, S, hk, HL, HG, HS⟩
        · have e1 : ¬ (k : Int) < (row.length : Int) := by omega
          clear hlt
          go_wp2_with fail
          go_meet
          exact ⟨k, l, S, hk, HL, HG, HS⟩
  case rest =>
    clear H1 H2 H3 H4 HXN
    obtain ⟨N, l, S, hN, HL, HG, HS⟩ := hcut
    obtain ⟨f1, f2, f3, f4⟩ := HG.out.sync
    have HZT := hid (zero_told f1 f3 f4 (n := 4) (p := 2 + wh * 4) (by unfold gZ; rw [List.length_map, HL.out]; omega) keep)
    have HF1 := hid f1
    have HF3 := hid f3
    have f2' := hid f2
    obtain ⟨S1, hS1⟩ : ∃ S1, S1 = S.sync.1 := ⟨_, rfl⟩
    rw [← hS1] at HZT HF1 HF3
    have HSY := hid (show ∀ X, St w [Disk p S, Blk x (extV p exZ) 111, Blk gw (bv l) 75] X → Calls Try.prog 16 #[.pointer (some ⟨p, 0, none⟩)] X fun r X' => r = .returned (.int .i64 S.sync.2) ∧ St w [Disk p S1, Blk x (extV p exZ) 111, Blk gw (bv l) 75] X' from fun X h => by rw [hS1]; exact sync_st h HG.out.ok (by omega))
    clear f1 f2 f3 f4 hS1
    have HS1L := hid (show S1.now.length = 20 by rw [HF1.out.now]; unfold gZ; rw [List.length_map, HL.out])
    have HDC := hid (fun i => dirty_clear HF1.out.now i)
    have ew := HEW.out
    have hw1 : (wh : Int) < 4 := by omega
    go_wp2_with (go_at_call 16; (with_reducible refine (HSY.out _ HS.out).mono ?_); rintro r w6 ⟨rfl, hs6⟩; have H6 := hid hs6; clear hs6)
    clear ew
    go_loopw [15, 16] (fun v i X => ∃ k : Nat, k ≤ 4 ∧ i = .int .i64 k ∧ Hid (St w (Row v 3 1 (S1.foul exZ k).length (numV (S1.foul exZ k)) :: [Disk p S1, Blk x (extV p exZ) 111, Blk gw (bv l) 75]) X)) (fun _ i _ => 4 - (intOf i).toNat)
    case atStart => exact ⟨0, by omega, rfl, hid (H6.out.nilRow 3 1)⟩
    case round =>
      clear HS H6
      obtain ⟨k, hk, rfl, HS⟩ := hrel
      obtain ⟨A, c, rfl, _⟩ := row_slice HS.out
      by_cases h4 : k < 4
      · have e1 : (k : Int) < 4 := by omega
        go_wp2_with fail
        obtain ⟨wo, hwo⟩ : ∃ wo : World, wo = wr := ⟨_, rfl⟩
        rw [← hwo] at HS ⊢
        clear hwo
        go_loopw [17, 18] (fun d q X => X = wo ∧ ∃ k2 : Nat, k2 ≤ 4 ∧ q = .int .i64 k2 ∧ d = .bool (dirtyTo l k k2)) (fun _ q _ => 4 - (intOf q).toNat)
        case atStart => exact ⟨rfl, 0, by omega, rfl, rfl⟩
        case round =>
          obtain ⟨rfl, k2, hk2, rfl, rfl⟩ := hrel
          by_cases h42 : k2 < 4
          · have e2 : (k2 : Int) < 4 := by omega
            have HDS := hid (dirty_step l k k2)
            cases hd : dirtyTo l k k2
            · have c7 : wr.cell? ⟨gw, 2 + 4 * k + k2, none⟩ = some (.int .u8 (bt l (2 + 4 * k + k2))) := (blk_cell HS.out.at4 _).trans (bv_get l _ (by rw [HL.out]; omega))
              have e3 : 2 + 4 * (k : Int) + (k2 : Int) < 20 := by omega
              have hbt := bt_ge l (2 + 4 * k + k2)
              have HDS := hid (show dirtyTo l k (k2 + 1) = (bt l (2 + 4 * k + k2) != 0) by
                rw [HDS.out, hd, Bool.false_or, Bool.eq_iff_iff, bne_iff_ne, bne_iff_ne]
                unfold bt
                refine not_congr ⟨fun h => by rw [h]; rfl, fun h => UInt8.toNat_inj.1 ?_⟩
                show (l.getD (2 + 4 * k + k2) 0).toNat = 0
                omega)
              clear hd
              go_wp2_with fail
              go_roundw
              case rel => exact ⟨by first | trivial | rfl, k2 + 1, by omega, by go_num, by rw [HDS.out]⟩
              case measure => simp [intOf]; omega
            · have HDS := hid (show dirtyTo l k (k2 + 1) = true by rw [HDS.out, hd, Bool.true_or])
              clear hd
              go_wp2_with fail
              go_roundw
              case rel => exact ⟨by first | trivial | rfl, k2 + 1, by omega, by go_num, by rw [HDS.out]⟩
              case measure => simp [intOf]; omega
          · have e2 : ¬ (k2 : Int) < 4 := by omega
            obtain rfl : k2 = 4 := by omega
            have HST := hid (foul_step S1 exZ k)
            have HCL := hid (show S1.clear (exZ.first + k * exZ.size) exZ.size = !dirtyTo l k 4 from HDC.out k)
            have hfl := foul_le S1 exZ k
            have hfl' : (S1.foul exZ k).length ≤ 4 := by omega
            have HC0 := hid (fun (X : World) (L' : List Atm) (h : St w (Disk p S1 :: Blk x (extV p exZ) 111 :: L') X) => clear_st h HF1.out.ok (by rw [HS1L.out]; exact exZ_ok) HF1.out.off (i := k) h4)
            cases hd : dirtyTo l k 4
            · have HST := hid (HST.out.trans (if_pos (by rw [HCL.out, hd]; rfl)))
              have HC1 := hid (show ∀ X, St w (Row (.slice A (S1.foul exZ k).length c) 3 1 (S1.foul exZ k).length (numV (S1.foul exZ k)) :: [Disk p S1, Blk x (extV p exZ) 111, Blk gw (bv l) 75]) X → Calls Try.prog 33 #[.pointer (some ⟨x, 0, none⟩), .int .i64 k] X fun r w' => r = .returned (.tuple #[.bool true, .int .i64 0]) ∧ St w (Row (.slice A (S1.foul exZ k).length c) 3 1 (S1.foul exZ k).length (numV (S1.foul exZ k)) :: [Disk p S1, Blk x (extV p exZ) 111, Blk gw (bv l) 75]) w' from fun X h =>
                (HC0.out X _ h.back3).mono fun r w' hx => ⟨by rw [hx.1, HCL.out, hd]; rfl, hx.2.at3⟩)
              clear hd
              go_wp2_with (go_at_call 33; (with_reducible refine (HC1.out _ HS.out).mono ?_); rintro r w7 ⟨rfl, hs7⟩; have HS7 := hid hs7; clear hs7)
              go_roundw
              case rel => exact ⟨k + 1, by omega, by go_num, hid (by rw [HST.out]; exact HS7.out)⟩
              case measure => simp [intOf]; omega
            · have HST := hid (HST.out.trans (if_neg (by rw [HCL.out, hd]; decide)))
              have HC1 := hid (show ∀ X, St w (Row (.slice A (S1.foul exZ k).length c) 3 1 (S1.foul exZ k).length (numV (S1.foul exZ k)) :: [Disk p S1, Blk x (extV p exZ) 111, Blk gw (bv l) 75]) X → Calls Try.prog 33 #[.pointer (some ⟨x, 0, none⟩), .int .i64 k] X fun r w' => r = .returned (.tuple #[.bool false, .int .i64 0]) ∧ St w (Row (.slice A (S1.foul exZ k).length c) 3 1 (S1.foul exZ k).length (numV (S1.foul exZ k)) :: [Disk p S1, Blk x (extV p exZ) 111, Blk gw (bv l) 75]) w' from fun X h =>
                (HC0.out X _ h.back3).mono fun r w' hx => ⟨by rw [hx.1, HCL.out, hd]; rfl, hx.2.at3⟩)
              clear hd
              obtain ⟨i0, hi, hiz, his, hib⟩ := info_parts info3
              have HI := hid (And.intro hi (And.intro hiz (And.intro his hib)))
              clear hi hiz his hib
              go_wp2_with (first | (go_at_call 33; (with_reducible refine (HC1.out _ HS.out).mono ?_); rintro r w1 ⟨rfl, hs1⟩; have HS1 := hid hs1; clear hs1) | (refine wpList_buildSlice1 _ rfl (.int .i64 k) (by simp [Act.eval]) rfl Try.underlying67 zero3 size3 (by decide) (by decide) rfl ?_; intro gs X1 hS hgs hges hX1b; have HS2 := hid (HS1.out.turn hX1b); have HNW := hid (news_box hS [.int .i64 k] rfl); clear hS hgs hges hX1b) | (refine wpList_append_at _ _ _ rfl (.slice A (S1.foul exZ k).length c) rfl ⟨gs, 0, none⟩ 1 1 rfl rfl 3 i0 (.int .i64 0) 1 8 Try.underlying67 HI.out.1 HI.out.2.1 HI.out.2.2.1 HI.out.2.2.2 rfl (by decide) (S1.foul exZ k).length (numV (S1.foul exZ k)) HS2.out.row [.int .i64 k] rfl HNW.out (by simp [Value.oneCell']) (by unfold maxLen; omega) (by omega) ?_; intro v' V2 hO2 hT2 hfr; have HS3 := hid (HS2.out.grow hO2 hT2 hfr); clear hO2 hT2 hfr))
              go_roundw
              case rel =>
                refine ⟨k + 1, by omega, by go_num, hid ?_⟩
                rw [HST.out, List.length_append]
                have := HS3.out
                unfold numV at *
                rw [List.map_append]
                exact this
              case measure => simp [intOf]; omega
      · have e1 : ¬ (k : Int) < 4 := by omega
        obtain rfl : k = 4 := by omega
        have hpos : (⟨2, 4, 4⟩ : Ex).first + wh * (⟨2, 4, 4⟩ : Ex).size = 2 + wh * 4 := rfl
        obtain ⟨R, hR⟩ : ∃ R, R = S1.zeros 4 (2 + wh * 4) := ⟨_, rfl⟩
        rw [← hR] at HZT
        have HZ := hid (show ∀ X (L' : List Atm), St w (Disk p S1 :: Blk x (extV p exZ) 111 :: L') X → Calls Try.prog 32 #[.pointer (some ⟨x, 0, none⟩), .int .i64 wh] X fun r X' => r = .returned (.int .i64 0) ∧ St w (Disk p R.1 :: Blk x (extV p exZ) 111 :: L') X' from fun X L' h => by
          rw [hR, ← HZT.out.1, hR]
          exact zero_st (i := wh) h HF1.out.ok (by rw [HS1L.out]; exact exZ_ok) (by show N + 4 ≤ 1000000; omega) hw4)
        obtain ⟨S4, hS4⟩ : ∃ S4, S4 = R.1.crash keep := ⟨_, rfl⟩
        have HRO := hid (show R.1.Ok (N + 4) by rw [hR]; exact zeros_ok HF1.out.ok)
        have HRL := hid (show R.1.now.length = 20 by rw [hR, zeros_len]; exact HS1L.out)
        rw [← hS4] at HZT
        have HS4O := hid (show S4.Ok (N + 4) by rw [hS4]; exact HRO.out.crash keep)
        have HS4L := hid (show S4.now.length = 20 by rw [hS4, crash_len']; exact HRL.out)
        have HS4F := hid (show S4.off = false by rw [hS4]; exact crash_off _ _)
        have HCR := hid (show ∀ X (L' : List Atm), St w (Disk p R.1 :: L') X → Calls Try.prog 17 #[.pointer (some ⟨p, 0, none⟩), .slice K0 keep.length ck] X fun r X' => r = .returned (.tuple #[]) ∧ St w (Disk p S4 :: L') X' from fun X L' h => by rw [hS4]; exact crash_st h HRO.out (by omega) hkl HK.out)
        have HCL := hid (show ∀ X (L' : List Atm), St w (Disk p S4 :: Blk x (extV p exZ) 111 :: L') X → Calls Try.prog 33 #[.pointer (some ⟨x, 0, none⟩), .int .i64 wh] X fun r X' => r = .returned (.tuple #[.bool true, .int .i64 0]) ∧ St w (Disk p S4 :: Blk x (extV p exZ) 111 :: L') X' from fun X L' h => (clear_st h HS4O.out (by rw [HS4L.out]; exact exZ_ok) HS4F.out hw4).mono fun r X' hx => ⟨by rw [hx.1]; show Ending.returned (.tuple #[.bool (S4.clear (2 + wh * 4) 4), .int .i64 0]) = _; rw [HZT.out.2.2.2], hx.2⟩)
        have HZO := hid (show ∀ X (L' : List Atm), St w (Disk p R.1 :: Blk x (extV p exZ) 111 :: L') X → Calls Try.prog 32 #[.pointer (some ⟨x, 0, none⟩), .int .i64 4] X fun r X' => r = .returned (.int .i64 1) ∧ X = X' from fun X L' h => zero_out (i := 4) h exZ_ok (.inr (by decide)))
        have HFO := hid (show ∀ X (L' : List Atm), St w (Disk p S1 :: Blk x (extV p exZ) 111 :: L') X → Calls Try.prog 36 #[.pointer (some ⟨x, 0, none⟩)] X fun r w' => ∃ v, r = .returned (.tuple #[v, .int .i64 0]) ∧ St w (Row v 3 1 (S1.foul exZ 4).length (numV (S1.foul exZ 4)) :: Disk p S1 :: Blk x (extV p exZ) 111 :: L') w' from fun X L' h => foul_st h HF1.out.ok (by rw [HS1L.out]; exact exZ_ok) HF1.out.off)
        have HNOW := hid (show ∀ i, i < 20 → S4.now.getD i zeroB = if 2 + wh * 4 ≤ i ∧ i < 2 + wh * 4 + 4 then zeroB else tailB (l.getD i 0) from fun i hi => by
          rw [← gZ_get]
          exact HZT.out.2.2.1 i (by unfold gZ; rw [List.length_map, HL.out]; exact hi))
        have hfl := foul_le S1 exZ 4
        clear hS4 hR hpos HZT
        go_wp2_with (go_at_call 36; (with_reducible refine (HFO.out _ _ HS.out.back3).mono ?_); rintro r w7 ⟨v2, rfl, hs7⟩; obtain ⟨A2, c2, rfl, _⟩ := row_slice hs7; have H7 := hid hs7; clear hs7)
        go_loopw [23] (fun i X => ∃ k : Nat, k ≤ (S1.foul exZ 4).length ∧ i = .int .i64 k ∧ Hid (St w (Row (.slice A2 (S1.foul exZ 4).length c2) 3 1 (S1.foul exZ 4).length (numV (S1.foul exZ 4)) :: Disk p S1 :: Blk x (extV p exZ) 111 :: Row (.slice A (S1.foul exZ 4).length c) 3 1 (S1.foul exZ 4).length (numV (S1.foul exZ 4)) :: [Blk gw (bv l) 75]) X)) (fun i _ => (S1.foul exZ 4).length - (intOf i).toNat)
        case atStart => exact ⟨0, by omega, rfl, H7⟩
        case round =>
          clear HS H7
          obtain ⟨k, hk, rfl, HS⟩ := hrel
          by_cases hlt : k < (S1.foul exZ 4).length
          · have e2 : (k : Int) < ((S1.foul exZ 4).length : Int) := by omega
            have e0 : (0 : Int) ≤ (k : Int) := by omega
            obtain ⟨q, hq⟩ : ∃ q, (S1.foul exZ 4)[k]? = some q := ⟨_, List.getElem?_eq_getElem hlt⟩
            have hqv : (numV (S1.foul exZ 4))[k]? = some (.int .i64 q) := by unfold numV; rw [List.getElem?_map, hq]; rfl
            obtain ⟨ga, rfl, hca⟩ := row_cell HS.out hlt
            obtain ⟨gb, rfl, hcb⟩ := row_cell HS.out.at4 hlt
            rw [hqv] at hca hcb
            have HSD := hid (HS.out.turn (Below.drew (Below.refl _ _)))
            clear hq hqv
            go_wp2_with fail
            refine wp_region_ord [] [(0, 1), (1, 1), (2, 1), (3, 1), (4, 1), (5, 1), (6, 1), (7, 1), (8, 1)] (fun X => X = World.drew wr) (by kernel_rfl) (by kernel_rfl) (fun d _ c _ _ h => by cases d <;> exact h) rfl (fun X hXe _ => ?_)
            subst hXe
            repeat (apply wpOrd_class; ((· first | (rw [List.getElem?_toArray, List.getElem?_cons_zero]; done) | (simp only [List.getElem?_toArray, List.getElem?_cons_succ, List.getElem?_cons_zero]; exact rfl))); (· exact rfl); intro K hK; apply Exists.intro; refine And.intro (fun X' hX' => ?_) ?_; (· go_simp; (try go_bits); first | done | exact rfl | exact ⟨rfl, rfl⟩); go_simp; refine hK _ _ ?_; clear hK K)
            refine wpOrd_done ?_
            go_wp2_with fail
            go_roundw
            case rel => exact ⟨k + 1, by omega, by go_num, HSD⟩
            case measure => simp [intOf]; omega
          · have e2 : ¬ (k : Int) < ((S1.foul exZ 4).length : Int) := by omega
            go_wp2_with (first | (go_at_call 32; (with_reducible refine (HZ.out _ _ HS.out.drop).mono ?_); rintro r w8 ⟨rfl, hs8⟩; have H8 := hid hs8; clear hs8) | (go_at_call 32; (with_reducible refine (HZO.out _ _ H8.out).mono ?_); rintro r w9 ⟨rfl, rfl⟩) | (go_at_call 17; (with_reducible refine (HCR.out _ _ H8.out).mono ?_); rintro r w10 ⟨rfl, hs10⟩; have H10 := hid hs10; clear hs10) | (go_at_call 33; (with_reducible refine (HCL.out _ _ H10.out).mono ?_); rintro r w11 ⟨rfl, hs11⟩; have H11 := hid (show St w [Disk p S4, Blk x (extV p exZ) 111, Blk gw (bv l) 75] w11 from hs11.drop3); clear hs11))
            go_loopw [25] (fun v X => ∃ i : Nat, i ≤ 20 ∧ v = .int .i64 i ∧ Hid (St w [Disk p S4, Blk x (extV p exZ) 111, Blk gw (bv l) 75] X)) (fun v _ => 20 - (intOf v).toNat)
            case atStart => exact ⟨0, by omega, rfl, H11⟩
            case round =>
              clear HS H8 H10 H11
              obtain ⟨i, hi, rfl, HS⟩ := hrel
              by_cases h20 : i < 20
              · have e3 : (i : Int) < 20 := by omega
                have e0 : (0 : Int) ≤ (i : Int) := by omega
                have hat : S4.at_ (i : Int) = 0 := by rw [at_in (by rw [HS4L.out]; exact h20), HS4F.out]; rfl
                obtain ⟨V, hV⟩ : ∃ V, V = S4.now.getD i zeroB := ⟨_, rfl⟩
                have HVL := hid (show V.length = 128 by rw [hV]; exact full_getD HS4O.out.now _)
                have HRD := hid (show ∀ X, St w [Disk p S4, Blk x (extV p exZ) 111, Blk gw (bv l) 75] X → Calls Try.prog 18 #[.pointer (some ⟨p, 0, none⟩), .int .i64 i] X fun r X' => r = .returned (.tuple #[.agg (bv V), .int .i64 0]) ∧ St w [Disk p S4, Blk x (extV p exZ) 111, Blk gw (bv l) 75] X' from fun X h => (read_rd h HS4O.out _).mono fun r X' hx => ⟨by rw [hx.1, hat, hV]; unfold DS.rd; rw [if_pos hat, Int.toNat_natCast], hx.2⟩)
                have HVN := HNOW.out i h20
                rw [← hV] at HVN
                by_cases hin1 : 2 + wh * 4 ≤ i
                · by_cases hin2 : i < 2 + wh * 4 + 4
                  · rw [if_pos ⟨hin1, hin2⟩] at HVN
                    have e4 : 2 + 4 * (wh : Int) ≤ (i : Int) := by omega
                    have e5 : (i : Int) < 6 + 4 * (wh : Int) := by omega
                    have HBB := hid (show ∀ W, (Instr.build 33 #[(127, .int .u8 0)]).run Try.prog W = .ok (.agg (bv V)) W from fun W => by rw [HVN, ← tailB_zero]; exact build33_tail 0 W)
                    clear HVN hin1 hin2
                    have HVZ := hid ((bv_size V).trans HVL.out)
                    have CM := fun (x y : Operand) (W : World) => run_cmpK_neq (P := Try.prog) guard33 Try.underlying33 be5 cells5 HVL.out HVL.out x y W
                    simp only [decide_true, Bool.not_true] at CM
                    have BB := fun W => run_buildK (HBB.out W)
                    clear hV hat
                    go_wp2_with (first | (go_at_call 18; (with_reducible refine (HRD.out _ HS.out).mono ?_); rintro r w6 ⟨rfl, hs6⟩; have H6 := hid hs6; clear hs6) | (refine wpList_alloc 33 rfl rfl (.agg (bv zeroB)) zero33 ?_; intro gA W7 hA hal hag hW7) | (refine wpList_store_box 33 _ _ rfl gA rfl rfl (bv V) rfl 128 size33 HVZ.out (bv_one _) 33 _ hA bvz ?_; intro W8 hA8 hT8 hs8; have H9 := hid ((H6.out.newBlk hW7 hag hA).put hA8 hT8).back4; have LA : (loadK 33 (.pointer (some ⟨gA, 0, none⟩))).run Try.prog W8 = .ok (.value (.agg (bv V))) W8 := run_loadK_box hA8 Try.underlying33 rfl size33 HVZ.out; have ct : W8.cell? ⟨gw, i, none⟩ = some (.int .u8 (bt l i)) := (blk_cell H9.out.at3 i).trans (bv_get l i (by rw [HL.out]; exact h20))))
                    clear LA hA8 ct
                    go_roundw
                    case rel => exact ⟨i + 1, by omega, by go_num, hid (let h := H9.out.at4.drop; h)⟩
                    case measure => simp [intOf]; omega
                  · rw [if_neg (by omega)] at HVN
                    have e4 : 2 + 4 * (wh : Int) ≤ (i : Int) := by omega
                    have e5 : ¬ (i : Int) < 6 + 4 * (wh : Int) := by omega
                    have HBB := hid (show ∀ W, (Instr.build 33 #[(127, .int .u8 (bt l i))]).run Try.prog W = .ok (.agg (bv V)) W from fun W => by rw [HVN]; exact build33_tail (l.getD i 0) W)
                    clear HVN hin1 hin2
                    have HVZ := hid ((bv_size V).trans HVL.out)
                    have CM := fun (x y : Operand) (W : World) => run_cmpK_neq (P := Try.prog) guard33 Try.underlying33 be5 cells5 HVL.out HVL.out x y W
                    simp only [decide_true, Bool.not_true] at CM
                    have BB := fun W => run_buildK (HBB.out W)
                    clear hV hat
                    go_wp2_with (first | (go_at_call 18; (with_reducible refine (HRD.out _ HS.out).mono ?_); rintro r w6 ⟨rfl, hs6⟩; have H6 := hid hs6; clear hs6) | (refine wpList_alloc 33 rfl rfl (.agg (bv zeroB)) zero33 ?_; intro gA W7 hA hal hag hW7) | (refine wpList_store_box 33 _ _ rfl gA rfl rfl (bv V) rfl 128 size33 HVZ.out (bv_one _) 33 _ hA bvz ?_; intro W8 hA8 hT8 hs8; have H9 := hid ((H6.out.newBlk hW7 hag hA).put hA8 hT8).back4; have LA : (loadK 33 (.pointer (some ⟨gA, 0, none⟩))).run Try.prog W8 = .ok (.value (.agg (bv V))) W8 := run_loadK_box hA8 Try.underlying33 rfl size33 HVZ.out; have ct : W8.cell? ⟨gw, i, none⟩ = some (.int .u8 (bt l i)) := (blk_cell H9.out.at3 i).trans (bv_get l i (by rw [HL.out]; exact h20))))
                    clear LA hA8 ct
                    go_roundw
                    case rel => exact ⟨i + 1, by omega, by go_num, hid (let h := H9.out.at4.drop; h)⟩
                    case measure => simp [intOf]; omega
                · rw [if_neg (by omega)] at HVN
                  have e4 : ¬ 2 + 4 * (wh : Int) ≤ (i : Int) := by omega
                  have HBB := hid (show ∀ W, (Instr.build 33 #[(127, .int .u8 (bt l i))]).run Try.prog W = .ok (.agg (bv V)) W from fun W => by rw [HVN]; exact build33_tail (l.getD i 0) W)
                  clear HVN hin1
                  have HVZ := hid ((bv_size V).trans HVL.out)
                  have CM := fun (x y : Operand) (W : World) => run_cmpK_neq (P := Try.prog) guard33 Try.underlying33 be5 cells5 HVL.out HVL.out x y W
                  simp only [decide_true, Bool.not_true] at CM
                  have BB := fun W => run_buildK (HBB.out W)
                  clear hV hat
                  go_wp2_with (first | (go_at_call 18; (with_reducible refine (HRD.out _ HS.out).mono ?_); rintro r w6 ⟨rfl, hs6⟩; have H6 := hid hs6; clear hs6) | (refine wpList_alloc 33 rfl rfl (.agg (bv zeroB)) zero33 ?_; intro gA W7 hA hal hag hW7) | (refine wpList_store_box 33 _ _ rfl gA rfl rfl (bv V) rfl 128 size33 HVZ.out (bv_one _) 33 _ hA bvz ?_; intro W8 hA8 hT8 hs8; have H9 := hid ((H6.out.newBlk hW7 hag hA).put hA8 hT8).back4; have LA : (loadK 33 (.pointer (some ⟨gA, 0, none⟩))).run Try.prog W8 = .ok (.value (.agg (bv V))) W8 := run_loadK_box hA8 Try.underlying33 rfl size33 HVZ.out; have ct : W8.cell? ⟨gw, i, none⟩ = some (.int .u8 (bt l i)) := (blk_cell H9.out.at3 i).trans (bv_get l i (by rw [HL.out]; exact h20))))
                  clear LA hA8 ct
                  go_roundw
                  case rel => exact ⟨i + 1, by omega, by go_num, hid (let h := H9.out.at4.drop; h)⟩
                  case measure => simp [intOf]; omega
              · have e3 : ¬ (i : Int) < 20 := by omega
                go_wp2
                go_ret
                exact ⟨rfl, HS.out.below⟩
end Go.Proofs.Ythmchbdhikakhaa
