/- DiskLasts: the walk. -/
import Derived.Test.YthmchbdhikakhaaDiskLastsPlain
import Derived.Test.YthmchbdhikakhaaDiskJobsBody
import Derived.Test.YthmchbdhikakhaaOpen2
import Derived.Deep.CutBlock
import Derived.Deep.DeepCutAuto
namespace Go.Proofs.Ythmchbdhikakhaa
open Go.RowKit Go.Cu
/-- A byte, and a one behind it. -/
def markB (b : UInt8) : Bk := b :: 1 :: List.replicate 126 0
theorem markB_len (b : UInt8) : (markB b).length = 128 := by simp [markB]
set_option maxRecDepth 20000 in
theorem build33_one (b : UInt8) (W : World) : (Instr.build 33 #[(0, .int .u8 b.toNat)]).run Try.prog W = .ok (.agg (bv (oneB b))) W := by kernel_rfl
set_option maxRecDepth 20000 in
theorem build33_mark (b : UInt8) (W : World) : (Instr.build 33 #[(0, .int .u8 b.toNat), (1, .int .u8 1)]).run Try.prog W = .ok (.agg (bv (markB b))) W := by kernel_rfl
/-- Words as cells. -/
def wv (l : List Bool) : Array Value := (l.map Value.bool).toArray
theorem wv_size (l : List Bool) : (wv l).size = l.length := by simp [wv]
theorem wv_get (l : List Bool) (i : Nat) (h : i < l.length) : (wv l)[i]? = some (.bool (l.getD i false)) := by simp [wv, h]
theorem wv_set (l : List Bool) (i : Nat) (b : Bool) : (wv l).setIfInBounds i (.bool b) = wv (l.set i b) := by
  apply Array.ext_getElem?
  intro j
  simp only [wv, Array.getElem?_setIfInBounds, List.getElem?_toArray, List.getElem?_map, List.getElem?_set, List.size_toArray, List.length_map]
  by_cases h : i = j
  · subst h
    by_cases h2 : i < l.length <;> simp [h2]
  · simp [h]
theorem zero30 (W : World) : (zeroValue 30).run Try.prog W = .ok (.agg (wv (List.replicate 8 false))) W := by kernel_rfl
set_option maxRecDepth 20000 in
set_option maxHeartbeats 4000000 in
theorem lasts_walk {first : List UInt8} {F0 : Option Addr} {c0 : Nat} {row : List JobD} {A : Option Addr} {c : Nat} {keep : List Bool} {K0 : Option Addr} {ck : Nat} (w : World) (hf : BytesIn w F0 first) (hfl : first.length ≤ maxLen) (hr : JobsIn w A row) (hk : KeepIn w K0 keep) (hkl : keep.length ≤ 9223372036854775807) :
    Calls Try.prog 3 #[.slice F0 first.length c0, .slice A row.length c, .slice K0 keep.length ck] w fun x w' => x = .returned (.bool true) ∧ Below w.heap.size w w' := by
  unfold maxLen at hfl
  have HF := hid hf
  have HR := hid hr
  have HK := hid hk
  clear hf hr hk
  go_enter Try.func3, Try.ntmps3
  go_upto_block 0 with (first | (go_at_call 13; (with_reducible refine (new_sti (St.start w) (m := 8) (n := 8) rfl (by decide) (by decide)).mono ?_); rintro x w1 ⟨p, rfl, hs1⟩) | (go_at_call 14; (with_reducible refine (disks_st hs1).mono ?_); rintro x w2 ⟨rfl, hs2⟩) | (refine wpList_alloc 30 rfl rfl _ zero30 ?_; intro gt W3 hT htl htg hW3; have hs3 := (hs2.newBlk hW3 htg hT).at2))
  have HS := hid hs3
  clear hs1 hs2 hs3 hT htl htg hW3
  go_cut [] (fun wx => ∃ (k : Nat) (S : DS), k ≤ 8 ∧ Hid (Good2 first (List.replicate 8 false) k S.sync.1) ∧ Hid (S.sync.2 = 0) ∧ Hid (S.Ok 8) ∧ Hid (St w [Disk p S, Blk gt (wv (List.replicate 8 false)) 30] wx))
  case first =>
    go_wp2_with fail
    go_loopw [10] (fun i X => ∃ k : Nat, k ≤ 8 ∧ k ≤ first.length ∧ i = .int .i64 k ∧ ∃ S : DS, Hid (Good1 first k S) ∧ Hid (St w [Disk p S, Blk gt (wv (List.replicate 8 false)) 30] X)) (fun i _ => 8 - (intOf i).toNat)
    case atStart => exact ⟨0, by omega, by omega, rfl, DS.new 8, hid (good1_start first), HS⟩
    case round =>
      clear HS
      obtain ⟨k, hk8, hkf, rfl, S, HG, HS⟩ := hrel
      by_cases hlt : k < 8 ∧ k < first.length
      · obtain ⟨h8, hkl2⟩ := hlt
        have e1 : (k : Int) < 8 := by omega
        have e2 : (k : Int) < (first.length : Int) := by omega
        obtain ⟨b, hb⟩ : ∃ b, first[k]? = some b := ⟨_, List.getElem?_eq_getElem hkl2⟩
        obtain ⟨g, o, rfl, hg, hc⟩ := HF.out k b hb
        have d0 := (HS.out.below.cell (p := ⟨g, o + k, none⟩) hg).trans hc
        have BB := fun W => run_buildK (build33_one b W)
        have HB := hid (show first.getD k 0 = b by rw [List.getD_eq_getElem?_getD, hb]; rfl)
        clear hb hc
        go_wp2_with (go_at_call 15; (with_reducible refine (write_st HS.out HG.out.ok (by omega) _ (oneB_len b)).mono ?_); rintro x w4 ⟨rfl, hs4⟩; have HS4 := hid hs4; clear hs4)
        go_roundw
        case rel => exact ⟨k + 1, by omega, by omega, by go_num, _, hid (good1_step HG.out h8), hid (by rw [HB.out]; exact HS4.out)⟩
        case measure => simp [intOf]; omega
      · have HE := hid (show k = 8 ∨ first.length ≤ k by omega)
        by_cases h8 : k < 8
        · have e1 : (k : Int) < 8 := by omega
          have e2 : ¬ (k : Int) < (first.length : Int) := by omega
          clear hlt
          go_wp2_with fail
          go_meet
          exact ⟨k, S, hk8, hid (good2_start HG.out HE.out).1, hid (good2_start HG.out HE.out).2, hid (HG.out.ok.mono hk8), HS⟩
        · have e1 : ¬ (k : Int) < 8 := by omega
          clear hlt
          go_wp2_with fail
          go_meet
          exact ⟨k, S, hk8, hid (good2_start HG.out HE.out).1, hid (good2_start HG.out HE.out).2, hid (HG.out.ok.mono hk8), HS⟩
  case rest =>
    clear HS
    obtain ⟨k, S, hk8, HG, HZ, HO, HS⟩ := hcut
    go_upto_block 2 with (go_at_call 16; (with_reducible refine (sync_st HS.out HO.out (by omega)).mono ?_); rintro x w5 ⟨hx, hs5⟩; have HS5 := hid hs5; rw [HZ.out] at hx; subst hx; clear hs5)
    go_cut [] (fun wx => ∃ (N : Nat) (S2 : DS) (t : List Bool), N ≤ 28 ∧ Hid (Good2 first t N S2) ∧ Hid (St w [Disk p S2, Blk gt (wv t) 30] wx))
    case first =>
      go_wp2_with fail
      go_loopw [11, 12] (fun i _ X => ∃ k2 : Nat, k2 ≤ 20 ∧ i = .int .i64 k2 ∧ ∃ (S2 : DS) (t : List Bool), Hid (Good2 first t (k + k2) S2) ∧ Hid (St w [Disk p S2, Blk gt (wv t) 30] X)) (fun i _ _ => 20 - (intOf i).toNat)
      case atStart => exact ⟨0, by omega, rfl, _, _, HG, HS5⟩
      case round =>
        clear HS HS5 HG HZ HO
        obtain ⟨k2, hk2, rfl, S2, t, HG, HS⟩ := hrel
        by_cases hlt : k2 < row.length ∧ k2 < 20
        · obtain ⟨hkr, hk20⟩ := hlt
          have e1 : (k2 : Int) < (row.length : Int) := by omega
          have e2 : (k2 : Int) < 20 := by omega
          obtain ⟨j, hj⟩ : ∃ j, row[k2]? = some j := ⟨_, List.getElem?_eq_getElem hkr⟩
          obtain ⟨ga, oa, Ak, ck, rfl, hab, _, _, b1, b2, b3, b4, c0, c1, c2, c3⟩ := HR.out k2 j hj
          have d1 := (HS.out.below.cell (p := ⟨ga, oa + k2 * 4 + 1, none⟩) hab).trans c1
          have d2 := (HS.out.below.cell (p := ⟨ga, oa + k2 * 4 + 2, none⟩) hab).trans c2
          obtain ⟨r, er, hr8⟩ := u64_rem j.at_ 8 (by decide)
          simp only [Int.cast_ofNat_Int] at er
          have BB := fun W => run_buildK (build33_mark j.by_ W)
          have hr8' : (r : Int) < 8 := by omega
          have hr0 : (0 : Int) ≤ (r : Int) := by omega
          have htl := hid HG.out.tl
          clear c0 c1 c2 c3 hj
          go_wp2_with (go_at_call 15; (with_reducible refine (write_st HS.out HG.out.ok (by omega) _ (markB_len j.by_)).mono ?_); rintro x w4 ⟨rfl, hs4⟩; have ct : w4.cell? ⟨gt, r, none⟩ = some (.bool (t.getD r false)) := (blk_cell hs4.at2 r).trans (wv_get t r (by rw [htl.out]; exact hr8)); have ft : w4.frozen? ⟨gt, r, none⟩ = false := frozen_of_row w4 gt r _ _ hs4.at2.blk; have HS4 := hid hs4; clear hs4)
          go_roundw
          case rel =>
            refine ⟨k2 + 1, by omega, by go_num, _, _, hid (good2_step HG.out hr8 (markB_len j.by_)), hid ?_⟩
            rw [← wv_set]
            exact (HS4.out.at2.setCell r (.bool true)).at2
          case measure => simp [intOf]; omega
        · by_cases hkr : k2 < row.length
          · have e1 : (k2 : Int) < (row.length : Int) := by omega
            have e2 : ¬ (k2 : Int) < 20 := by omega
            clear hlt
            go_wp2_with fail
            go_meet
            exact ⟨k + k2, S2, t, by omega, HG, HS⟩
          · have e1 : ¬ (k2 : Int) < (row.length : Int) := by omega
            clear hlt
            go_wp2_with fail
            go_meet
            exact ⟨k + k2, S2, t, by omega, HG, HS⟩
    case rest =>
      clear HS HS5 HG HZ HO
      obtain ⟨N, S2, t, hN, HG, HS⟩ := hcut
      have HC := hid (good2_crash HG.out keep)
      go_wp2_with (go_at_call 17; (with_reducible refine (crash_st HS.out HG.out.ok (by omega) hkl HK.out).mono ?_); rintro x w5 ⟨rfl, hs5⟩; have HS5 := hid hs5; clear hs5)
      go_loopw [13] (fun i X => ∃ k3 : Nat, k3 ≤ 8 ∧ i = .int .i64 k3 ∧ Hid (St w [Disk p (S2.crash keep), Blk gt (wv t) 30] X)) (fun i _ => 8 - (intOf i).toNat)
      case atStart => exact ⟨0, by omega, rfl, HS5⟩
      case round =>
        clear HS HS5
        obtain ⟨k3, hk3, rfl, HS⟩ := hrel
        by_cases h8 : k3 < 8
        · have e1 : (k3 : Int) < 8 := by omega
          have e0 : (0 : Int) ≤ (k3 : Int) := by omega
          obtain ⟨V, hV⟩ : ∃ V, V = (S2.crash keep).rd (k3 : Int) := ⟨_, rfl⟩
          have hat := (HC.out.2 k3 h8).1
          have HVL := hid (show V.length = 128 by rw [hV]; exact rd_len HC.out.1 _)
          have HVZ := hid ((bv_size V).trans HVL.out)
          have HRD := hid (show ∀ X, St w [Disk p (S2.crash keep), Blk gt (wv t) 30] X → Calls Try.prog 18 #[.pointer (some ⟨p, 0, none⟩), .int .i64 k3] X fun x X' => x = .returned (.tuple #[.agg (bv V), .int .i64 0]) ∧ St w [Disk p (S2.crash keep), Blk gt (wv t) 30] X' from fun X h => (read_rd h HC.out.1 _).mono fun x X' hx => ⟨by rw [hx.1, hat, hV], hx.2⟩)
          have HV := hid (show t.getD k3 false = false → V = oneB (first.getD k3 0) from fun ht => by
            rw [hV]
            unfold DS.rd
            rw [if_pos hat, Int.toNat_natCast]
            exact (HC.out.2 k3 h8).2 ht)
          clear hV hat
          have htl := hid HG.out.tl
          by_cases hlt : k3 < first.length
          · have e2 : (k3 : Int) < (first.length : Int) := by omega
            obtain ⟨b, hb⟩ : ∃ b, first[k3]? = some b := ⟨_, List.getElem?_eq_getElem hlt⟩
            obtain ⟨g, o, rfl, hg, hc⟩ := HF.out k3 b hb
            have HC0 := hid hc
            have BB := fun W => run_buildK (build33_one b W)
            have HB := hid (show first.getD k3 0 = b by rw [List.getD_eq_getElem?_getD, hb]; rfl)
            clear hb hc
            cases ht : t.getD k3 false
            · have hV := HV.out ht
              rw [HB.out] at hV
              have CM := fun (x y : Operand) (W : World) => run_cmpK_neq (P := Try.prog) guard33 Try.underlying33 be5 cells5 HVL.out (oneB_len b) x y W
              simp only [hV, decide_true, Bool.not_true] at CM
              subst hV
              clear HV
              go_wp2_with (first | (go_at_call 18; (with_reducible refine (HRD.out _ HS.out).mono ?_); rintro x w6 ⟨rfl, hs6⟩; have HS6 := hid hs6; clear hs6) | (refine wpList_alloc 33 rfl rfl (.agg (bv zeroB)) zero33 ?_; intro gA W7 hA hal hag hW7) | (refine wpList_store_box 33 _ _ rfl gA rfl rfl (bv (oneB b)) rfl 128 size33 HVZ.out (bv_one _) 33 _ hA bvz ?_; intro W8 hA8 hT8 hs8; have H8 := hid ((HS6.out.newBlk hW7 hag hA).put hA8 hT8).back3; have ct : W8.cell? ⟨gt, k3, none⟩ = some (.bool (t.getD k3 false)) := (blk_cell H8.out.at2 k3).trans (wv_get t k3 (by rw [htl.out]; exact h8)); have LA : (loadK 33 (.pointer (some ⟨gA, 0, none⟩))).run Try.prog W8 = .ok (.value (.agg (bv (oneB b)))) W8 := run_loadK_box hA8 Try.underlying33 rfl size33 HVZ.out; rw [ht] at ct; have d0 := (H8.out.below.cell (p := ⟨g, o + k3, none⟩) hg).trans HC0.out))
              clear ct LA hA8 d0
              go_roundw
              case rel => exact ⟨k3 + 1, by omega, by go_num, hid H8.out.drop3⟩
              case measure => simp [intOf]; omega
            · clear HV
              go_wp2_with (first | (go_at_call 18; (with_reducible refine (HRD.out _ HS.out).mono ?_); rintro x w6 ⟨rfl, hs6⟩; have HS6 := hid hs6; clear hs6) | (refine wpList_alloc 33 rfl rfl (.agg (bv zeroB)) zero33 ?_; intro gA W7 hA hal hag hW7) | (refine wpList_store_box 33 _ _ rfl gA rfl rfl (bv V) rfl 128 size33 HVZ.out (bv_one _) 33 _ hA bvz ?_; intro W8 hA8 hT8 hs8; have H8 := hid ((HS6.out.newBlk hW7 hag hA).put hA8 hT8).back3; have ct : W8.cell? ⟨gt, k3, none⟩ = some (.bool (t.getD k3 false)) := (blk_cell H8.out.at2 k3).trans (wv_get t k3 (by rw [htl.out]; exact h8)); have LA : (loadK 33 (.pointer (some ⟨gA, 0, none⟩))).run Try.prog W8 = .ok (.value (.agg (bv V))) W8 := run_loadK_box hA8 Try.underlying33 rfl size33 HVZ.out; rw [ht] at ct; have d0 := (H8.out.below.cell (p := ⟨g, o + k3, none⟩) hg).trans HC0.out))
              clear ct LA hA8 d0
              go_roundw
              case rel => exact ⟨k3 + 1, by omega, by go_num, hid H8.out.drop3⟩
              case measure => simp [intOf]; omega
          · have e2 : ¬ (k3 : Int) < (first.length : Int) := by omega
            have BB := fun W => run_buildK (build33_one 0 W)
            have HB := hid (show first.getD k3 0 = 0 by rw [List.getD_eq_getElem?_getD, List.getElem?_eq_none (by omega)]; rfl)
            simp only [show (((0 : UInt8).toNat : Nat) : Int) = 0 from rfl] at BB
            cases ht : t.getD k3 false
            · have hV := HV.out ht
              rw [HB.out] at hV
              have CM := fun (x y : Operand) (W : World) => run_cmpK_neq (P := Try.prog) guard33 Try.underlying33 be5 cells5 HVL.out (oneB_len 0) x y W
              simp only [hV, decide_true, Bool.not_true] at CM
              subst hV
              clear HV
              go_wp2_with (first | (go_at_call 18; (with_reducible refine (HRD.out _ HS.out).mono ?_); rintro x w6 ⟨rfl, hs6⟩; have HS6 := hid hs6; clear hs6) | (refine wpList_alloc 33 rfl rfl (.agg (bv zeroB)) zero33 ?_; intro gA W7 hA hal hag hW7) | (refine wpList_store_box 33 _ _ rfl gA rfl rfl (bv (oneB 0)) rfl 128 size33 HVZ.out (bv_one _) 33 _ hA bvz ?_; intro W8 hA8 hT8 hs8; have H8 := hid ((HS6.out.newBlk hW7 hag hA).put hA8 hT8).back3; have ct : W8.cell? ⟨gt, k3, none⟩ = some (.bool (t.getD k3 false)) := (blk_cell H8.out.at2 k3).trans (wv_get t k3 (by rw [htl.out]; exact h8)); have LA : (loadK 33 (.pointer (some ⟨gA, 0, none⟩))).run Try.prog W8 = .ok (.value (.agg (bv (oneB 0)))) W8 := run_loadK_box hA8 Try.underlying33 rfl size33 HVZ.out; rw [ht] at ct))
              clear ct LA hA8
              go_roundw
              case rel => exact ⟨k3 + 1, by omega, by go_num, hid H8.out.drop3⟩
              case measure => simp [intOf]; omega
            · clear HV
              go_wp2_with (first | (go_at_call 18; (with_reducible refine (HRD.out _ HS.out).mono ?_); rintro x w6 ⟨rfl, hs6⟩; have HS6 := hid hs6; clear hs6) | (refine wpList_alloc 33 rfl rfl (.agg (bv zeroB)) zero33 ?_; intro gA W7 hA hal hag hW7) | (refine wpList_store_box 33 _ _ rfl gA rfl rfl (bv V) rfl 128 size33 HVZ.out (bv_one _) 33 _ hA bvz ?_; intro W8 hA8 hT8 hs8; have H8 := hid ((HS6.out.newBlk hW7 hag hA).put hA8 hT8).back3; have ct : W8.cell? ⟨gt, k3, none⟩ = some (.bool (t.getD k3 false)) := (blk_cell H8.out.at2 k3).trans (wv_get t k3 (by rw [htl.out]; exact h8)); have LA : (loadK 33 (.pointer (some ⟨gA, 0, none⟩))).run Try.prog W8 = .ok (.value (.agg (bv V))) W8 := run_loadK_box hA8 Try.underlying33 rfl size33 HVZ.out; rw [ht] at ct))
              clear ct LA hA8
              go_roundw
              case rel => exact ⟨k3 + 1, by omega, by go_num, hid H8.out.drop3⟩
              case measure => simp [intOf]; omega
        · have e1 : ¬ (k3 : Int) < 8 := by omega
          go_wp2
          go_ret
          exact ⟨rfl, HS.out.below⟩
end Go.Proofs.Ythmchbdhikakhaa
