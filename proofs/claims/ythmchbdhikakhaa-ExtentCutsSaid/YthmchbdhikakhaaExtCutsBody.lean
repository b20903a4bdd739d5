/- ExtentCuts: the walk. -/
import Derived.Test.YthmchbdhikakhaaExtFoul
import Derived.Test.YthmchbdhikakhaaExtPlain
import Derived.Test.YthmchbdhikakhaaDiskLastsBody
namespace Go.Proofs.Ythmchbdhikakhaa
open Go.RowKit Go.Cu
/-- What the i-th block is given. -/
def wantC (bytes : List UInt8) (i : Nat) : UInt8 := if i < bytes.length then bytes.getD i 0 else UInt8.ofNat (i + 1)
def gC (bytes : List UInt8) (k : Nat) : List Bk := (List.range 12).map fun i => if i < k then oneB (wantC bytes i) else zeroB
theorem gC_zero (bytes : List UInt8) : gC bytes 0 = List.replicate 12 zeroB := by
  refine List.ext_getElem? fun i => ?_
  unfold gC
  rw [List.getElem?_map, List.getElem?_replicate]
  by_cases h : i < 12
  · rw [List.getElem?_range h, if_pos h]; rfl
  · rw [List.getElem?_eq_none (by simpa using h), if_neg h]; rfl
theorem gC_len (bytes : List UInt8) (k : Nat) : (gC bytes k).length = 12 := by simp [gC]
theorem gC_step (bytes : List UInt8) {k : Nat} (hk : k < 12) : (gC bytes k).set k (oneB (wantC bytes k)) = gC bytes (k + 1) := by
  refine List.ext_getElem? fun i => ?_
  by_cases h : i < 12
  · by_cases e : k = i
    · subst e
      rw [List.getElem?_set_self (by rw [gC_len]; exact hk)]
      unfold gC
      rw [List.getElem?_map, List.getElem?_range h]
      simp
    · rw [List.getElem?_set_ne e]
      unfold gC
      rw [List.getElem?_map, List.getElem?_map, List.getElem?_range h]
      simp only [Option.map_some]
      congr 1
      by_cases h1 : i < k
      · rw [if_pos h1, if_pos (by omega)]
      · rw [if_neg h1, if_neg (by omega)]
  · rw [List.getElem?_eq_none (by simp [gC_len]; omega), List.getElem?_eq_none (by rw [gC_len]; omega)]
theorem gC_get (bytes : List UInt8) {i : Nat} (hi : i < 12) : (gC bytes 12).getD i zeroB = oneB (wantC bytes i) := by
  unfold gC
  rw [List.getD_eq_getElem?_getD, List.getElem?_map, List.getElem?_range hi]
  simp [hi]
theorem build33_next {k : Nat} (hk : k < 12) (W : World) : (buildK 33 #[(0, .int .u8 ((k : Int) + 1))]).run Try.prog W = .ok (.value (.agg (bv (oneB (UInt8.ofNat (k + 1)))))) W := by
  have h := run_buildK (build33_one (UInt8.ofNat (k + 1)) W)
  rw [show (((UInt8.ofNat (k + 1)).toNat : Nat) : Int) = (k : Int) + 1 by rw [u8_k (by omega)]; omega] at h
  exact h
set_option maxRecDepth 20000 in
set_option maxHeartbeats 8000000 in
theorem cuts_walk {bytes : List UInt8} {F0 : Option Addr} {c0 : Nat} {off : Int} {keep : List Bool} {K0 : Option Addr} {ck : Nat} (w : World) (hf : BytesIn w F0 bytes) (hk : KeepIn w K0 keep) (hkl : keep.length ≤ 9223372036854775807) :
    Calls Try.prog 6 #[.slice F0 bytes.length c0, .int .i64 off, .slice K0 keep.length ck] w fun x w' => x = .returned (.bool true) ∧ Below w.heap.size w w' := by
  have HF := hid hf
  have HK := hid hk
  have HXN := hid (fun (X : World) (p : Nat) (hX : St w [Disk p (DS.new 12)] X) => xnew_ok (f := 0) (c := 2) (s := 6) (e := ⟨0, 2, 6⟩) hX ⟨by decide, by decide, by decide, by decide, by decide, by decide⟩ rfl rfl rfl)
  obtain ⟨a, ea, ha8⟩ := u64_rem off 8 (by decide)
  simp only [Int.cast_ofNat_Int] at ea
  clear hf hk
  go_enter Try.func6, Try.ntmps6
  go_wp2_with (first | (go_at_call 13; (with_reducible refine (new_sti (St.start w) (m := 12) (n := 12) rfl (by decide) (by decide)).mono ?_); rintro r w1 ⟨p, rfl, hs1⟩; have H1 := hid hs1; clear hs1) | (go_at_call 30; (with_reducible refine (HXN.out _ _ H1.out).mono ?_); rintro r w2 ⟨x, rfl, hs2⟩; have H2 := hid hs2; clear hs2) | (go_at_call 31; (with_reducible refine (extents_st H2.out).mono ?_); rintro r w3 ⟨rfl, hs3⟩; have H3 := hid hs3.at2; clear hs3))
  go_loopw [11] (fun i X => ∃ k : Nat, k ≤ 12 ∧ i = .int .i64 k ∧ ∃ S : DS, Hid (Flatd (gC bytes k) k S) ∧ Hid (St w [Disk p S, Blk x (extV p ⟨0, 2, 6⟩) 111] X)) (fun i _ => 12 - (intOf i).toNat)
  case atStart => exact ⟨0, by omega, rfl, DS.new 12, hid (by rw [gC_zero]; exact Flatd.new (by decide)), H3⟩
  case round =>
    clear H1 H2 H3 HXN
    obtain ⟨k, hk, rfl, S, HG, HS⟩ := hrel
    by_cases h12 : k < 12
    · have e1 : (k : Int) < 12 := by omega
      by_cases hlt : k < bytes.length
      · have e2 : (k : Int) < (bytes.length : Int) := by omega
        obtain ⟨b, hb⟩ : ∃ b, bytes[k]? = some b := ⟨_, List.getElem?_eq_getElem hlt⟩
        obtain ⟨g, o, rfl, hg, hc⟩ := HF.out k b hb
        have d0 := (HS.out.below.cell (p := ⟨g, o + k, none⟩) hg).trans hc
        have BB := fun W => run_buildK (build33_one b W)
        have HB := hid (show wantC bytes k = b by unfold wantC; rw [if_pos hlt, List.getD_eq_getElem?_getD, hb]; rfl)
        clear hb hc
        go_wp2_with (go_at_call 15; (with_reducible refine (write_st HS.out HG.out.ok (by omega) _ (oneB_len b)).mono ?_); rintro r w4 ⟨rfl, hs4⟩; have HS4 := hid hs4; clear hs4)
        go_roundw
        case rel =>
          refine ⟨k + 1, by omega, by go_num, _, hid ?_, HS4⟩
          rw [← gC_step bytes h12, HB.out]
          exact (HG.out.write (by rw [gC_len]; exact h12) (oneB_len b)).1
        case measure => simp [intOf]; omega
      · have e2 : ¬ (k : Int) < (bytes.length : Int) := by omega
        have BB := fun W => build33_next h12 W
        obtain ⟨b, hb⟩ : ∃ b, UInt8.ofNat (k + 1) = b := ⟨_, rfl⟩
        have HB := hid (show wantC bytes k = b by unfold wantC; rw [if_neg hlt, hb])
        rw [hb] at BB
        clear hb
        go_wp2_with (go_at_call 15; (with_reducible refine (write_st HS.out HG.out.ok (by omega) _ (oneB_len b)).mono ?_); rintro r w4 ⟨rfl, hs4⟩; have HS4 := hid hs4; clear hs4)
        go_roundw
        case rel =>
          refine ⟨k + 1, by omega, by go_num, _, hid ?_, HS4⟩
          rw [← gC_step bytes h12, HB.out]
          exact (HG.out.write (by rw [gC_len]; exact h12) (oneB_len b)).1
        case measure => simp [intOf]; omega
    · have e1 : ¬ (k : Int) < 12 := by omega
      have e2 : k = 12 := by omega
      subst e2
      obtain ⟨f1, f2, f3, f4⟩ := HG.out.sync
      have CT := hid (cut_told f1 f3 f4 (n := 6) (by rw [gC_len]; decide) (a : Int) (by omega) keep)
      have HF1 := hid f1
      clear f1 f2 f3 f4
      obtain ⟨S1, hS1⟩ : ∃ S1, S1 = S.sync.1 := ⟨_, rfl⟩
      rw [← hS1] at CT HF1
      obtain ⟨R, hR⟩ : ∃ R, R = (S1.arm (a : Int)).zeros 6 0 := ⟨_, rfl⟩
      rw [← hR] at CT
      obtain ⟨S4, hS4⟩ : ∃ S4, S4 = R.1.crash keep := ⟨_, rfl⟩
      rw [← hS4] at CT
      have HRO := hid (show R.1.Ok (12 + 6) by rw [hR]; exact zeros_ok (HF1.out.ok.arm (by omega)))
      have HRL := hid (show R.1.now.length = 12 by rw [hR, zeros_len]; show S1.now.length = 12; rw [HF1.out.now, gC_len])
      have HS4O := hid (show S4.Ok 18 by rw [hS4]; exact HRO.out.crash keep)
      have HS4L := hid (show S4.now.length = 12 by rw [hS4, crash_len']; exact HRL.out)
      have HS4F := hid (show S4.off = false by rw [hS4]; exact crash_off _ _)
      have HSY := hid (show ∀ X, St w [Disk p S, Blk x (extV p ⟨0, 2, 6⟩) 111] X → Calls Try.prog 16 #[.pointer (some ⟨p, 0, none⟩)] X fun r X' => r = .returned (.int .i64 S.sync.2) ∧ St w [Disk p S1, Blk x (extV p ⟨0, 2, 6⟩) 111] X' from fun X h => by rw [hS1]; exact sync_st h HG.out.ok (by omega))
      have hEx : (⟨0, 2, 6⟩ : Ex).Ok 12 := ⟨by decide, by decide, by decide, by decide, by decide, by decide⟩
      have HZ := hid (show ∀ X, St w [Disk p (S1.arm (a : Int)), Blk x (extV p ⟨0, 2, 6⟩) 111] X → Calls Try.prog 32 #[.pointer (some ⟨x, 0, none⟩), .int .i64 0] X fun r X' => r = .returned (.int .i64 R.2) ∧ St w [Disk p R.1, Blk x (extV p ⟨0, 2, 6⟩) 111] X' from fun X h => by
        rw [hR]
        exact zero_st (i := 0) h (HF1.out.ok.arm (by omega)) (by show (⟨0, 2, 6⟩ : Ex).Ok S1.now.length; rw [HF1.out.now, gC_len]; exact hEx) (by decide) (by decide))
      have HCR := hid (show ∀ X, St w [Disk p R.1, Blk x (extV p ⟨0, 2, 6⟩) 111] X → Calls Try.prog 17 #[.pointer (some ⟨p, 0, none⟩), .slice K0 keep.length ck] X fun r X' => r = .returned (.tuple #[]) ∧ St w [Disk p S4, Blk x (extV p ⟨0, 2, 6⟩) 111] X' from fun X h => by rw [hS4]; exact crash_st h HRO.out (by decide) hkl HK.out)
      have HCL := hid (show ∀ (T : DS) (N : Nat) (X : World), T.Ok N → T.now.length = 12 → T.off = false → T.clear 0 6 = true → St w [Disk p T, Blk x (extV p ⟨0, 2, 6⟩) 111] X → Calls Try.prog 33 #[.pointer (some ⟨x, 0, none⟩), .int .i64 0] X fun r X' => r = .returned (.tuple #[.bool true, .int .i64 0]) ∧ St w [Disk p T, Blk x (extV p ⟨0, 2, 6⟩) 111] X' from fun T N X h1 h2 h3 h4 h => (clear_st (i := 0) h h1 (by rw [h2]; exact hEx) h3 (by decide)).mono fun r X' hx => ⟨by rw [hx.1]; show Ending.returned (.tuple #[.bool (T.clear 0 6), .int .i64 0]) = _; rw [h4], hx.2⟩)
      have HCL0 := hid (show ∀ (T : DS) (N : Nat) (X : World), T.Ok N → T.now.length = 12 → T.off = false → St w [Disk p T, Blk x (extV p ⟨0, 2, 6⟩) 111] X → Calls Try.prog 33 #[.pointer (some ⟨x, 0, none⟩), .int .i64 0] X fun r X' => r = .returned (.tuple #[.bool (T.clear 0 6), .int .i64 0]) ∧ St w [Disk p T, Blk x (extV p ⟨0, 2, 6⟩) 111] X' from fun T N X h1 h2 h3 h => clear_st (i := 0) h h1 (by rw [h2]; exact hEx) h3 (by decide))
      obtain ⟨T, hT⟩ : ∃ T, T = (S4.zeros 6 0).1 := ⟨_, rfl⟩
      have HZ2 := hid (show ∀ X, St w [Disk p S4, Blk x (extV p ⟨0, 2, 6⟩) 111] X → Calls Try.prog 32 #[.pointer (some ⟨x, 0, none⟩), .int .i64 0] X fun r X' => r = .returned (.int .i64 0) ∧ St w [Disk p T, Blk x (extV p ⟨0, 2, 6⟩) 111] X' from fun X h => (zero_st (i := 0) h HS4O.out (by rw [HS4L.out]; exact hEx) (by decide) (by decide)).mono fun r X' hx => ⟨by rw [hx.1]; show Ending.returned (.int .i64 (S4.zeros 6 0).2) = _; rw [CT.out.again.1], by rw [hT]; exact hx.2⟩)
      have HTO := hid (show T.Ok 24 by rw [hT]; exact zeros_ok HS4O.out)
      have HTL := hid (show T.now.length = 12 by rw [hT, zeros_len]; exact HS4L.out)
      have HTF := hid (show T.off = false by rw [hT]; exact CT.out.again.2.1)
      have HTW := hid (show T.wait.length = 0 by rw [hT, CT.out.again.2.2.1]; rfl)
      have HTC := hid (show T.clear 0 6 = true by rw [hT]; exact CT.out.again.2.2.2)
      have HNOW := hid (show ∀ i, i < 12 → S4.now.getD i zeroB = oneB (wantC bytes i) ∨ (i < 6 ∧ S4.now.getD i zeroB = zeroB) from fun i hi => by
        rw [← gC_get bytes hi]
        exact CT.out.now i (by rw [gC_len]; exact hi))
      have HCT := hid CT.out.clear
      rcases CT.out.dn with ⟨r2, ro⟩ | ⟨r2, ro⟩
      · have HRF := hid ro
        have HR2 := hid r2
        have HC4 := hid (HCT.out r2)
        clear r2 ro hT hS4 hR hS1 CT HCT hEx
        go_wp2_with (first | (go_at_call 16; (with_reducible refine (HSY.out _ HS.out).mono ?_); rintro r w4 ⟨rfl, hs4⟩; have H4 := hid hs4; clear hs4) | (go_at_call 23; (with_reducible refine (arm_st H4.out _).mono ?_); rintro r w5 ⟨rfl, hs5⟩; have H5 := hid hs5; clear hs5) | (go_at_call 32; (with_reducible refine (HZ.out _ H5.out).mono ?_); rintro r w6 ⟨hx, hs6⟩; rw [HR2.out] at hx; subst hx; have H6 := hid hs6; clear hs6) | (go_at_call 25; (with_reducible refine (down_st H6.out).mono ?_); rintro r w7 ⟨hx, rfl⟩; rw [HRF.out] at hx; subst hx) | (go_at_call 17; (with_reducible refine (HCR.out _ H6.out).mono ?_); rintro r w8 ⟨rfl, hs8⟩; have H8 := hid hs8; clear hs8))
        go_loopw [14] (fun v X => ∃ i : Nat, i ≤ 12 ∧ v = .int .i64 i ∧ Hid (St w [Disk p S4, Blk x (extV p ⟨0, 2, 6⟩) 111] X)) (fun v _ => 12 - (intOf v).toNat)
        case atStart => exact ⟨0, by omega, rfl, H8⟩
        case round =>
          clear HS H4 H5 H6 H8
          obtain ⟨i, hi, rfl, HS⟩ := hrel
          by_cases h12 : i < 12
          · have e1 : (i : Int) < 12 := by omega
            have hat : S4.at_ (i : Int) = 0 := by rw [at_in (by rw [HS4L.out]; exact h12), HS4F.out]; rfl
            obtain ⟨V, hV⟩ : ∃ V, V = S4.now.getD i zeroB := ⟨_, rfl⟩
            have HVL := hid (show V.length = 128 by rw [hV]; exact full_getD HS4O.out.now _)
            have HVZ := hid ((bv_size V).trans HVL.out)
            have HRD := hid (show ∀ X, St w [Disk p S4, Blk x (extV p ⟨0, 2, 6⟩) 111] X → Calls Try.prog 18 #[.pointer (some ⟨p, 0, none⟩), .int .i64 i] X fun r X' => r = .returned (.tuple #[.agg (bv V), .int .i64 0]) ∧ St w [Disk p S4, Blk x (extV p ⟨0, 2, 6⟩) 111] X' from fun X h => (read_rd h HS4O.out _).mono fun r X' hx => ⟨by rw [hx.1, hat, hV]; unfold DS.rd; rw [if_pos hat, Int.toNat_natCast], hx.2⟩)
            have HVV := hid (show V = oneB (wantC bytes i) ∨ (i < 6 ∧ V = zeroB) by rw [hV]; exact HNOW.out i h12)
            have BZ := fun W => run_buildK (build33 W)
            clear hV hat
            by_cases hlt : i < bytes.length
            · have e2 : (i : Int) < (bytes.length : Int) := by omega
              obtain ⟨b, hb⟩ : ∃ b, bytes[i]? = some b := ⟨_, List.getElem?_eq_getElem hlt⟩
              obtain ⟨g, o, rfl, hg, hc⟩ := HF.out i b hb
              have HC0 := hid hc
              have BB := fun W => run_buildK (build33_one b W)
              have HB := hid (show wantC bytes i = b by unfold wantC; rw [if_pos hlt, List.getD_eq_getElem?_getD, hb]; rfl)
              clear hb hc
              by_cases hVb : V = oneB b
              · have CM := fun (x y : Operand) (W : World) => run_cmpK_neq (P := Try.prog) guard33 Try.underlying33 be5 cells5 HVL.out (oneB_len b) x y W
                simp only [hVb, decide_true, Bool.not_true] at CM
                subst hVb
                go_wp2_with (first | (go_at_call 18; (with_reducible refine (HRD.out _ HS.out).mono ?_); rintro r w6 ⟨rfl, hs6⟩; have H6 := hid hs6; clear hs6) | (refine wpList_alloc 33 rfl rfl (.agg (bv zeroB)) zero33 ?_; intro gA W7 hA hal hag hW7) | (refine wpList_store_box 33 _ _ rfl gA rfl rfl (bv (oneB b)) rfl 128 size33 HVZ.out (bv_one _) 33 _ hA bvz ?_; intro W8 hA8 hT8 hs8; have H9 := hid ((H6.out.newBlk hW7 hag hA).put hA8 hT8).back3; have LA : (loadK 33 (.pointer (some ⟨gA, 0, none⟩))).run Try.prog W8 = .ok (.value (.agg (bv (oneB b)))) W8 := run_loadK_box hA8 Try.underlying33 rfl size33 HVZ.out; have d0 := (H9.out.below.cell (p := ⟨g, o + i, none⟩) hg).trans HC0.out))
                clear LA hA8
                go_roundw
                case rel => exact ⟨i + 1, by omega, by go_num, hid H9.out.drop3⟩
                case measure => simp [intOf]; omega
              · obtain ⟨h6, hVz⟩ : i < 6 ∧ V = zeroB := by
                  rcases HVV.out with h | h
                  · rw [HB.out] at h; exact absurd h hVb
                  · exact h
                have e3 : ¬ (6 : Int) ≤ (i : Int) := by omega
                have CM := fun (x y : Operand) (W : World) => run_cmpK_neq (P := Try.prog) guard33 Try.underlying33 be5 cells5 HVL.out (oneB_len b) x y W
                have CN := fun (x y : Operand) (W : World) => run_cmpK_neq (P := Try.prog) guard33 Try.underlying33 be5 cells5 HVL.out zeroB_len x y W
                simp only [hVb, decide_false, Bool.not_false] at CM
                simp only [hVz, decide_true, Bool.not_true] at CN CM
                subst hVz
                clear hVb
                go_wp2_with (first | (go_at_call 18; (with_reducible refine (HRD.out _ HS.out).mono ?_); rintro r w6 ⟨rfl, hs6⟩; have H6 := hid hs6; clear hs6) | (refine wpList_alloc 33 rfl rfl (.agg (bv zeroB)) zero33 ?_; intro gA W7 hA hal hag hW7) | (refine wpList_store_box 33 _ _ rfl gA rfl rfl (bv zeroB) rfl 128 size33 HVZ.out (bv_one _) 33 _ hA bvz ?_; intro W8 hA8 hT8 hs8; have H9 := hid ((H6.out.newBlk hW7 hag hA).put hA8 hT8).back3; have LA : (loadK 33 (.pointer (some ⟨gA, 0, none⟩))).run Try.prog W8 = .ok (.value (.agg (bv zeroB))) W8 := run_loadK_box hA8 Try.underlying33 rfl size33 HVZ.out; have d0 := (H9.out.below.cell (p := ⟨g, o + i, none⟩) hg).trans HC0.out))
                clear LA hA8
                go_roundw
                case rel => exact ⟨i + 1, by omega, by go_num, hid H9.out.drop3⟩
                case measure => simp [intOf]; omega
            · have e2 : ¬ (i : Int) < (bytes.length : Int) := by omega
              have BB := fun W => build33_next h12 W
              obtain ⟨b, hb⟩ : ∃ b, UInt8.ofNat (i + 1) = b := ⟨_, rfl⟩
              have HB := hid (show wantC bytes i = b by unfold wantC; rw [if_neg hlt, hb])
              rw [hb] at BB
              clear hb
              by_cases hVb : V = oneB b
              · have CM := fun (x y : Operand) (W : World) => run_cmpK_neq (P := Try.prog) guard33 Try.underlying33 be5 cells5 HVL.out (oneB_len b) x y W
                simp only [hVb, decide_true, Bool.not_true] at CM
                subst hVb
                go_wp2_with (first | (go_at_call 18; (with_reducible refine (HRD.out _ HS.out).mono ?_); rintro r w6 ⟨rfl, hs6⟩; have H6 := hid hs6; clear hs6) | (refine wpList_alloc 33 rfl rfl (.agg (bv zeroB)) zero33 ?_; intro gA W7 hA hal hag hW7) | (refine wpList_store_box 33 _ _ rfl gA rfl rfl (bv (oneB b)) rfl 128 size33 HVZ.out (bv_one _) 33 _ hA bvz ?_; intro W8 hA8 hT8 hs8; have H9 := hid ((H6.out.newBlk hW7 hag hA).put hA8 hT8).back3; have LA : (loadK 33 (.pointer (some ⟨gA, 0, none⟩))).run Try.prog W8 = .ok (.value (.agg (bv (oneB b)))) W8 := run_loadK_box hA8 Try.underlying33 rfl size33 HVZ.out))
                clear LA hA8
                go_roundw
                case rel => exact ⟨i + 1, by omega, by go_num, hid H9.out.drop3⟩
                case measure => simp [intOf]; omega
              · obtain ⟨h6, hVz⟩ : i < 6 ∧ V = zeroB := by
                  rcases HVV.out with h | h
                  · rw [HB.out] at h; exact absurd h hVb
                  · exact h
                have e3 : ¬ (6 : Int) ≤ (i : Int) := by omega
                have CM := fun (x y : Operand) (W : World) => run_cmpK_neq (P := Try.prog) guard33 Try.underlying33 be5 cells5 HVL.out (oneB_len b) x y W
                have CN := fun (x y : Operand) (W : World) => run_cmpK_neq (P := Try.prog) guard33 Try.underlying33 be5 cells5 HVL.out zeroB_len x y W
                simp only [hVb, decide_false, Bool.not_false] at CM
                simp only [hVz, decide_true, Bool.not_true] at CN CM
                subst hVz
                clear hVb
                go_wp2_with (first | (go_at_call 18; (with_reducible refine (HRD.out _ HS.out).mono ?_); rintro r w6 ⟨rfl, hs6⟩; have H6 := hid hs6; clear hs6) | (refine wpList_alloc 33 rfl rfl (.agg (bv zeroB)) zero33 ?_; intro gA W7 hA hal hag hW7) | (refine wpList_store_box 33 _ _ rfl gA rfl rfl (bv zeroB) rfl 128 size33 HVZ.out (bv_one _) 33 _ hA bvz ?_; intro W8 hA8 hT8 hs8; have H9 := hid ((H6.out.newBlk hW7 hag hA).put hA8 hT8).back3; have LA : (loadK 33 (.pointer (some ⟨gA, 0, none⟩))).run Try.prog W8 = .ok (.value (.agg (bv zeroB))) W8 := run_loadK_box hA8 Try.underlying33 rfl size33 HVZ.out))
                clear LA hA8
                go_roundw
                case rel => exact ⟨i + 1, by omega, by go_num, hid H9.out.drop3⟩
                case measure => simp [intOf]; omega
          · have e1 : ¬ (i : Int) < 12 := by omega
            have tok1 : True := trivial
            go_wp2_with (first | (have _t := tok1; go_at_call 33; (with_reducible refine (HCL.out _ _ _ HS4O.out HS4L.out HS4F.out HC4.out HS.out).mono ?_); rintro r w5 ⟨rfl, hs5⟩; have H5 := hid hs5; clear hs5; clear tok1) | (go_at_call 32; (with_reducible refine (HZ2.out _ H5.out).mono ?_); rintro r w6 ⟨rfl, hs6⟩; have H6 := hid hs6; clear hs6) | (go_at_call 33; (with_reducible refine (HCL.out _ _ _ HTO.out HTL.out HTF.out HTC.out H6.out).mono ?_); rintro r w7 ⟨rfl, hs7⟩; have H7 := hid hs7; clear hs7) | (go_at_call 27; (with_reducible refine (waiting_st H7.out).mono ?_); rintro r w8 ⟨hx, rfl⟩; rw [HTW.out] at hx; subst hx))
            go_ret
            exact ⟨rfl, H7.out.below⟩

      · have HRF := hid ro
        have HR2 := hid r2
        clear r2 ro hT hS4 hR hS1 CT HCT hEx
        go_wp2_with (first | (go_at_call 16; (with_reducible refine (HSY.out _ HS.out).mono ?_); rintro r w4 ⟨rfl, hs4⟩; have H4 := hid hs4; clear hs4) | (go_at_call 23; (with_reducible refine (arm_st H4.out _).mono ?_); rintro r w5 ⟨rfl, hs5⟩; have H5 := hid hs5; clear hs5) | (go_at_call 32; (with_reducible refine (HZ.out _ H5.out).mono ?_); rintro r w6 ⟨hx, hs6⟩; rw [HR2.out] at hx; subst hx; have H6 := hid hs6; clear hs6) | (go_at_call 25; (with_reducible refine (down_st H6.out).mono ?_); rintro r w7 ⟨hx, rfl⟩; rw [HRF.out] at hx; subst hx) | (go_at_call 17; (with_reducible refine (HCR.out _ H6.out).mono ?_); rintro r w8 ⟨rfl, hs8⟩; have H8 := hid hs8; clear hs8))
        go_loopw [14] (fun v X => ∃ i : Nat, i ≤ 12 ∧ v = .int .i64 i ∧ Hid (St w [Disk p S4, Blk x (extV p ⟨0, 2, 6⟩) 111] X)) (fun v _ => 12 - (intOf v).toNat)
        case atStart => exact ⟨0, by omega, rfl, H8⟩
        case round =>
          clear HS H4 H5 H6 H8
          obtain ⟨i, hi, rfl, HS⟩ := hrel
          by_cases h12 : i < 12
          · have e1 : (i : Int) < 12 := by omega
            have hat : S4.at_ (i : Int) = 0 := by rw [at_in (by rw [HS4L.out]; exact h12), HS4F.out]; rfl
            obtain ⟨V, hV⟩ : ∃ V, V = S4.now.getD i zeroB := ⟨_, rfl⟩
            have HVL := hid (show V.length = 128 by rw [hV]; exact full_getD HS4O.out.now _)
            have HVZ := hid ((bv_size V).trans HVL.out)
            have HRD := hid (show ∀ X, St w [Disk p S4, Blk x (extV p ⟨0, 2, 6⟩) 111] X → Calls Try.prog 18 #[.pointer (some ⟨p, 0, none⟩), .int .i64 i] X fun r X' => r = .returned (.tuple #[.agg (bv V), .int .i64 0]) ∧ St w [Disk p S4, Blk x (extV p ⟨0, 2, 6⟩) 111] X' from fun X h => (read_rd h HS4O.out _).mono fun r X' hx => ⟨by rw [hx.1, hat, hV]; unfold DS.rd; rw [if_pos hat, Int.toNat_natCast], hx.2⟩)
            have HVV := hid (show V = oneB (wantC bytes i) ∨ (i < 6 ∧ V = zeroB) by rw [hV]; exact HNOW.out i h12)
            have BZ := fun W => run_buildK (build33 W)
            clear hV hat
            by_cases hlt : i < bytes.length
            · have e2 : (i : Int) < (bytes.length : Int) := by omega
              obtain ⟨b, hb⟩ : ∃ b, bytes[i]? = some b := ⟨_, List.getElem?_eq_getElem hlt⟩
              obtain ⟨g, o, rfl, hg, hc⟩ := HF.out i b hb
              have HC0 := hid hc
              have BB := fun W => run_buildK (build33_one b W)
              have HB := hid (show wantC bytes i = b by unfold wantC; rw [if_pos hlt, List.getD_eq_getElem?_getD, hb]; rfl)
              clear hb hc
              by_cases hVb : V = oneB b
              · have CM := fun (x y : Operand) (W : World) => run_cmpK_neq (P := Try.prog) guard33 Try.underlying33 be5 cells5 HVL.out (oneB_len b) x y W
                simp only [hVb, decide_true, Bool.not_true] at CM
                subst hVb
                go_wp2_with (first | (go_at_call 18; (with_reducible refine (HRD.out _ HS.out).mono ?_); rintro r w6 ⟨rfl, hs6⟩; have H6 := hid hs6; clear hs6) | (refine wpList_alloc 33 rfl rfl (.agg (bv zeroB)) zero33 ?_; intro gA W7 hA hal hag hW7) | (refine wpList_store_box 33 _ _ rfl gA rfl rfl (bv (oneB b)) rfl 128 size33 HVZ.out (bv_one _) 33 _ hA bvz ?_; intro W8 hA8 hT8 hs8; have H9 := hid ((H6.out.newBlk hW7 hag hA).put hA8 hT8).back3; have LA : (loadK 33 (.pointer (some ⟨gA, 0, none⟩))).run Try.prog W8 = .ok (.value (.agg (bv (oneB b)))) W8 := run_loadK_box hA8 Try.underlying33 rfl size33 HVZ.out; have d0 := (H9.out.below.cell (p := ⟨g, o + i, none⟩) hg).trans HC0.out))
                clear LA hA8
                go_roundw
                case rel => exact ⟨i + 1, by omega, by go_num, hid H9.out.drop3⟩
                case measure => simp [intOf]; omega
              · obtain ⟨h6, hVz⟩ : i < 6 ∧ V = zeroB := by
                  rcases HVV.out with h | h
                  · rw [HB.out] at h; exact absurd h hVb
                  · exact h
                have e3 : ¬ (6 : Int) ≤ (i : Int) := by omega
                have CM := fun (x y : Operand) (W : World) => run_cmpK_neq (P := Try.prog) guard33 Try.underlying33 be5 cells5 HVL.out (oneB_len b) x y W
                have CN := fun (x y : Operand) (W : World) => run_cmpK_neq (P := Try.prog) guard33 Try.underlying33 be5 cells5 HVL.out zeroB_len x y W
                simp only [hVb, decide_false, Bool.not_false] at CM
                simp only [hVz, decide_true, Bool.not_true] at CN CM
                subst hVz
                clear hVb
                go_wp2_with (first | (go_at_call 18; (with_reducible refine (HRD.out _ HS.out).mono ?_); rintro r w6 ⟨rfl, hs6⟩; have H6 := hid hs6; clear hs6) | (refine wpList_alloc 33 rfl rfl (.agg (bv zeroB)) zero33 ?_; intro gA W7 hA hal hag hW7) | (refine wpList_store_box 33 _ _ rfl gA rfl rfl (bv zeroB) rfl 128 size33 HVZ.out (bv_one _) 33 _ hA bvz ?_; intro W8 hA8 hT8 hs8; have H9 := hid ((H6.out.newBlk hW7 hag hA).put hA8 hT8).back3; have LA : (loadK 33 (.pointer (some ⟨gA, 0, none⟩))).run Try.prog W8 = .ok (.value (.agg (bv zeroB))) W8 := run_loadK_box hA8 Try.underlying33 rfl size33 HVZ.out; have d0 := (H9.out.below.cell (p := ⟨g, o + i, none⟩) hg).trans HC0.out))
                clear LA hA8
                go_roundw
                case rel => exact ⟨i + 1, by omega, by go_num, hid H9.out.drop3⟩
                case measure => simp [intOf]; omega
            · have e2 : ¬ (i : Int) < (bytes.length : Int) := by omega
              have BB := fun W => build33_next h12 W
              obtain ⟨b, hb⟩ : ∃ b, UInt8.ofNat (i + 1) = b := ⟨_, rfl⟩
              have HB := hid (show wantC bytes i = b by unfold wantC; rw [if_neg hlt, hb])
              rw [hb] at BB
              clear hb
              by_cases hVb : V = oneB b
              · have CM := fun (x y : Operand) (W : World) => run_cmpK_neq (P := Try.prog) guard33 Try.underlying33 be5 cells5 HVL.out (oneB_len b) x y W
                simp only [hVb, decide_true, Bool.not_true] at CM
                subst hVb
                go_wp2_with (first | (go_at_call 18; (with_reducible refine (HRD.out _ HS.out).mono ?_); rintro r w6 ⟨rfl, hs6⟩; have H6 := hid hs6; clear hs6) | (refine wpList_alloc 33 rfl rfl (.agg (bv zeroB)) zero33 ?_; intro gA W7 hA hal hag hW7) | (refine wpList_store_box 33 _ _ rfl gA rfl rfl (bv (oneB b)) rfl 128 size33 HVZ.out (bv_one _) 33 _ hA bvz ?_; intro W8 hA8 hT8 hs8; have H9 := hid ((H6.out.newBlk hW7 hag hA).put hA8 hT8).back3; have LA : (loadK 33 (.pointer (some ⟨gA, 0, none⟩))).run Try.prog W8 = .ok (.value (.agg (bv (oneB b)))) W8 := run_loadK_box hA8 Try.underlying33 rfl size33 HVZ.out))
                clear LA hA8
                go_roundw
                case rel => exact ⟨i + 1, by omega, by go_num, hid H9.out.drop3⟩
                case measure => simp [intOf]; omega
              · obtain ⟨h6, hVz⟩ : i < 6 ∧ V = zeroB := by
                  rcases HVV.out with h | h
                  · rw [HB.out] at h; exact absurd h hVb
                  · exact h
                have e3 : ¬ (6 : Int) ≤ (i : Int) := by omega
                have CM := fun (x y : Operand) (W : World) => run_cmpK_neq (P := Try.prog) guard33 Try.underlying33 be5 cells5 HVL.out (oneB_len b) x y W
                have CN := fun (x y : Operand) (W : World) => run_cmpK_neq (P := Try.prog) guard33 Try.underlying33 be5 cells5 HVL.out zeroB_len x y W
                simp only [hVb, decide_false, Bool.not_false] at CM
                simp only [hVz, decide_true, Bool.not_true] at CN CM
                subst hVz
                clear hVb
                go_wp2_with (first | (go_at_call 18; (with_reducible refine (HRD.out _ HS.out).mono ?_); rintro r w6 ⟨rfl, hs6⟩; have H6 := hid hs6; clear hs6) | (refine wpList_alloc 33 rfl rfl (.agg (bv zeroB)) zero33 ?_; intro gA W7 hA hal hag hW7) | (refine wpList_store_box 33 _ _ rfl gA rfl rfl (bv zeroB) rfl 128 size33 HVZ.out (bv_one _) 33 _ hA bvz ?_; intro W8 hA8 hT8 hs8; have H9 := hid ((H6.out.newBlk hW7 hag hA).put hA8 hT8).back3; have LA : (loadK 33 (.pointer (some ⟨gA, 0, none⟩))).run Try.prog W8 = .ok (.value (.agg (bv zeroB))) W8 := run_loadK_box hA8 Try.underlying33 rfl size33 HVZ.out))
                clear LA hA8
                go_roundw
                case rel => exact ⟨i + 1, by omega, by go_num, hid H9.out.drop3⟩
                case measure => simp [intOf]; omega
          · have e1 : ¬ (i : Int) < 12 := by omega
            have tok1 : True := trivial
            go_wp2_with (first | (have _t := tok1; go_at_call 33; (with_reducible refine (HCL0.out _ _ _ HS4O.out HS4L.out HS4F.out HS.out).mono ?_); rintro r w5 ⟨rfl, hs5⟩; have H5 := hid hs5; clear hs5; clear tok1) | (go_at_call 32; (with_reducible refine (HZ2.out _ H5.out).mono ?_); rintro r w6 ⟨rfl, hs6⟩; have H6 := hid hs6; clear hs6) | (go_at_call 33; (with_reducible refine (HCL.out _ _ _ HTO.out HTL.out HTF.out HTC.out H6.out).mono ?_); rintro r w7 ⟨rfl, hs7⟩; have H7 := hid hs7; clear hs7) | (go_at_call 27; (with_reducible refine (waiting_st H7.out).mono ?_); rintro r w8 ⟨hx, rfl⟩; rw [HTW.out] at hx; subst hx))
            go_ret
            exact ⟨rfl, H7.out.below⟩

end Go.Proofs.Ythmchbdhikakhaa
