/- JournalLays: in every row of records each is written as the chapter says, or there is no room; all are there again; for all sizes and records. -/
import Derived.Test.YthmchbdhikakhaaJa4
import Derived.Test.YthmchbdhikakhaaRows
import Derived.ChangeOld
/- JournalLays: the walk. -/
namespace Go.Cu
theorem Laid.split {L : List Blk8} : ∀ {a b : List (List UInt8)} {J J2 : Jn}, Laid L J (a ++ b) J2 → ∃ J1, Laid L J a J1 ∧ Laid L J1 b J2
  | [], b, J, J2, h => ⟨J, rfl, h⟩
  | r :: a, b, J, J2, h => by
    obtain ⟨h1, h2, h3, h4⟩ := h
    obtain ⟨J1, h5, h6⟩ := Laid.split h4
    exact ⟨J1, ⟨h1, h2, h3, h5⟩, h6⟩
/-- The blocks of what was appended last. -/
theorem Quiet.lastBlocks {S T : DS} {J0 J K : Jn} {rs : List (List UInt8)} {r : List UInt8} (h : Quiet S J0 rs J) (h2 : Quiet T J0 (rs ++ [r]) K) : ∀ k, k < blocksN r.length → T.now.getD (J.first + J.used + k) zeroB = blockB J.n k r := by
  obtain ⟨J1, h3, h4⟩ := h2.laid.split
  obtain rfl := h3.same h.laid
  rw [h2.now]
  exact h4.2.2.1
end Go.Cu
namespace Go.Proofs.Ythmchbdhikakhaa
open Go.RowKit Go.Cu
theorem layV_get {n nb k : Nat} {r : List UInt8} (hk : k < nb) : ∀ i, i < 128 → (layV n nb r)[k * 128 + i]? = (bvL (blockB n k r))[i]? := by
  intro i hi
  induction nb with
  | zero => cases hk
  | succ m ih =>
    rw [layV_succ]
    rcases Nat.lt_or_ge k m with h | h
    · rw [List.getElem?_append_left (by rw [layV_len]; omega)]
      exact ih h
    · obtain rfl : k = m := by omega
      rw [List.getElem?_append_right (by rw [layV_len]; omega), layV_len]
      congr 1
      omega
theorem lay_load {W0 X : World} {L : List Atm} {B : Option Addr} {d n nb k : Nat} {r : List UInt8} (h : St W0 (Row (.slice B nb d) 32 128 nb (layV n nb r) :: L) X) (hk : k < nb) :
    ∃ g, B = some ⟨g, 0, none⟩ ∧ ∀ Y, St W0 (Row (.slice B nb d) 32 128 nb (layV n nb r) :: L) Y → (loadK 32 (.pointer (some ⟨g, k * 128, none⟩))).run Try.prog Y = .ok (.value (.agg (bv (blockB n k r)))) Y := by
  have hs : (bv (blockB n k r)).size = 128 := (bv_size _).trans (blockB_len _ _ _)
  have key : ∀ Y, St W0 (Row (.slice B nb d) 32 128 nb (layV n nb r) :: L) Y → ∃ g, B = some ⟨g, 0, none⟩ ∧ (loadK 32 (.pointer (some ⟨g, k * 128, none⟩))).run Try.prog Y = .ok (.value (.agg (bv (blockB n k r)))) Y := by
    intro Y hY
    rcases hY.row.2 with ⟨_, h0⟩ | ⟨g, cap, cur, hv, _, hg, hcap, hmax, hcs, htk⟩
    · omega
    · have e1 : B = some ⟨g, 0, none⟩ := by injection hv
      refine ⟨g, e1, run_loadK hg Try.underlying32 rfl size32 hs (fun i hi => ?_)⟩
      rw [hs] at hi
      have h1 := layV_get (n := n) (r := r) hk i hi
      rw [← htk, List.getElem?_take_of_lt (by omega)] at h1
      have h2 : (bv (blockB n k r))[i]? = (bvL (blockB n k r))[i]? := by rw [bv_eq, List.getElem?_toArray]
      rw [h2, ← h1]
      simp
  obtain ⟨g, e1, _⟩ := key X h
  refine ⟨g, e1, fun Y hY => ?_⟩
  obtain ⟨g', e2, h2⟩ := key Y hY
  rw [e1] at e2
  cases e2
  exact h2
set_option maxRecDepth 20000 in
set_option maxHeartbeats 16000000 in
theorem jlays_walk {size : Int} {A : Option Addr} {c : Nat} {recs : List (List UInt8)} (w : World) (hin : RecsIn w A recs) :
    Calls Try.prog 10 #[.int .i64 size, .slice A recs.length c] w fun x w' => x = .returned (.bool true) ∧ Below w.heap.size w w' := by
  obtain ⟨m, ew, hm⟩ := u64_rem size 12 (by decide)
  simp only [Int.cast_ofNat_Int] at ew
  have HEW := hid ew
  obtain ⟨s, hn⟩ : ∃ n, n = m + 1 := ⟨_, rfl⟩
  have hs12 : s ≤ 12 := by omega
  have hs1 : 1 ≤ s := by omega
  have hmn : (1 : Int) + (m : Int) = (s : Int) := by omega
  clear hm hn ew
  obtain ⟨ins, hins⟩ : ∃ ins, ins = fewL recs 15 500 := ⟨_, rfl⟩
  have HIL := hid (show ∀ r ∈ ins, r.length ≤ 500 by
    intro r hr
    rw [hins] at hr
    unfold fewL at hr
    obtain ⟨q, _, rfl⟩ := List.mem_map.1 hr
    rw [List.length_take]; omega)
  have hin15 : ins.length ≤ 15 := by rw [hins]; unfold fewL; rw [List.length_map, List.length_take]; omega
  have HFR := hid (fresh_st (s := s) (m := (s : Int)) (St.start w) hs1 (by omega) rfl)
  have HJS := hid (fun (L : List Atm) X (hX : St w L X) => journals_st hX)
  have HFW := hid (fun (L : List Atm) X (hX : St w L X) => show Calls Try.prog 51 #[.slice A recs.length c, .int .i64 15, .int .i64 500] X fun r w' => ∃ B d, r = .returned (.slice B ins.length d) ∧ St w (Recs (.slice B ins.length d) ins :: L) w' from by
    rw [hins]; exact few_st (most := 15) (size := 500) hX hin (by decide) (by decide))
  obtain ⟨q1, q2, q3, q4⟩ := fresh_quiet s
  have hok := freshD_ok (s := s) (by omega)
  obtain ⟨S0, hS0⟩ : ∃ S0, S0 = freshD s := ⟨_, rfl⟩
  rw [← hS0] at q2 q3 q4 hok HFR
  have HQ0 := hid q4
  have HA0 := hid q2
  have HL0 := hid q3
  have HK0 := hid hok
  have ew := HEW.out
  clear q1 q2 q3 q4 hok hS0 hins
  go_enter Try.func10, Try.ntmps10
  go_wp2_with (first | (go_at_call 50; (with_reducible refine HFR.out.mono ?_); rintro r w1 ⟨p, j, rfl, hs1⟩; have H1 := hid hs1; clear hs1) | (go_at_call 43; (with_reducible refine (HJS.out _ _ H1.out).mono ?_); rintro r w2 ⟨rfl, hs2⟩; have H2 := hid hs2; clear hs2) | (go_at_call 51; (with_reducible refine (HFW.out _ _ H2.out).mono ?_); rintro r w3 ⟨B, d, rfl, hs3⟩; have H3 := hid hs3; clear hs3))
  clear ew HFR H1 H2
  obtain ⟨xs, hxs⟩ := H3.out.unrecs
  have HRA := hid (recsAll_row hxs)
  have H4 := hid hxs.at3.at4.at2
  clear hxs H3
  go_loopw [9, 10, 11, 12, 13, 14, 15, 16, 17] (fun wt at_ i _ _ _ _ _ _ X => ∃ (k : Nat) (S : DS) (J : Jn) (ws : List (List UInt8)) (C : Option Addr) (e : Nat), k ≤ ins.length ∧ i = .int .i64 k ∧ at_ = .int .i64 J.used ∧ wt = .slice C ws.length e ∧ J.used ≤ s ∧ Hid (J.first = 3 ∧ J.size = s ∧ J.n = ws.length ∧ J.n ≤ J.used) ∧ Hid (S.armed = 0) ∧ Hid (S.now.length = s + 4) ∧ Hid (S.Ok (1000 + 700 * k)) ∧ Hid (Quiet S ⟨3, s, 0, 0⟩ ws J) ∧
    Hid (St w (Strs (.slice C ws.length e) ws :: Disk p S :: Blk j (jourV p J) 114 :: Row (.slice B ins.length d) 22 1 ins.length xs :: [Vals xs ins]) X)) (fun _ _ i _ _ _ _ _ _ _ => ins.length - (intOf i).toNat)
  case atStart => exact ⟨0, S0, ⟨3, s, 0, 0⟩, [], none, 0, Nat.zero_le _, rfl, rfl, rfl, Nat.zero_le _, hid ⟨rfl, rfl, rfl, Nat.le_refl _⟩, HA0, HL0, HK0, HQ0, hid (H4.out.nilRow 9 1)⟩
  case round =>
    clear H4
    obtain ⟨k, S, J, ws, C, e, hk, rfl, rfl, rfl, hJu, HJ, HA, HL, HK, HQ, HS⟩ := hrel
    by_cases hlt : k < ins.length
    · have e1 : (k : Int) < (ins.length : Int) := by omega
      obtain ⟨r, hr⟩ : ∃ r, ins[k]? = some r := ⟨_, List.getElem?_eq_getElem hlt⟩
      obtain ⟨gi, oi, Br, cr, rfl, hr1, hr2, hr3⟩ := HRA.out k r hr
      have hr5 := HIL.out r (List.mem_of_getElem? hr)
      have HC := hid (fun X (M : List Atm) (hX : St w (Row (.slice (some ⟨gi, oi, none⟩) ins.length d) 22 1 ins.length xs :: Vals xs ins :: M) X) => hr3 X ⟨M, hX⟩)
      obtain ⟨hc, hcb⟩ := HC.out wr _ HS.out.drop.drop.drop
      have CV := conv_bytes hcb r.length cr rfl
      obtain ⟨nb, hnb⟩ : ∃ nb, nb = blocksN r.length := ⟨_, rfl⟩
      have hnb1 : 1 ≤ nb := by rw [hnb]; exact blocksN_pos _
      have hnb2 : nb ≤ 561 := by rw [hnb]; exact blocksN_le (by omega)
      have HNB := hid hnb
      obtain ⟨f1, f2, f3, f4⟩ := HJ.out
      obtain ⟨T, ea, hA, hTl, hTa, hT⟩ := HQ.out.append (rec := r) (by omega)
      obtain ⟨hTa1, hTa2⟩ := hTa HA.out
      have HAP := hid (show Calls Try.prog 45 #[.pointer (some ⟨j, 0, none⟩), .slice Br r.length cr] wr fun x w' => x = .returned (.int .i64 ea) ∧ St w (Strs (.slice C ws.length e) ws :: Disk p T :: Blk j (jourV p (J.after ea r.length)) 114 :: Row (.slice (some ⟨gi, oi, none⟩) ins.length d) 22 1 ins.length xs :: [Vals xs ins]) w' from by
        have := append_st (HS.out.at3.at3) HK.out (by rw [HL.out]; exact ⟨by omega, by omega, f4, by omega⟩) (by omega) (rec := r) (A := Br) (c := cr) (fun X hX => (HC.out X _ hX.drop).2) (by omega) hr1 hr2
        rw [hA] at this
        exact this.mono fun x w' hx => ⟨hx.1, hx.2.at3⟩)
      have HTK := hid (show T.Ok (1000 + 700 * (k + 1)) by have := append_ok HK.out J (rec := r) (by omega); rw [hA] at this; exact this.mono (by omega))
      have HTL := hid (hTl.trans HL.out)
      have HTA := hid hTa1
      have HBK := hid (fun X => (rblocks_any (r.length : Int) X).mono (fun x w' hx => (⟨by rw [hx.1, blocksI_nat (by omega), ← hnb], hx.2⟩ : x = .returned (.int .i64 nb) ∧ X = w')))
      have hsz : (strB r).size = r.length := strB_size r
      have HFJ := hid (And.intro f1 (And.intro f2 (And.intro f3 f4)))
      rw [f2, ← hnb] at hT
      have HT2 := hid (show (ws ++ [r]).map sv = ws.map sv ++ [sv r] by rw [List.map_append]; rfl)
      clear f1 f2 f3 f4 hA hTl hTa hTa1 hr3 hcb hr hnb
      rw [sv_eq] at CV
      rcases hT with ⟨hfull, rfl, rfl⟩ | ⟨hroom, hq⟩
      · have e2 : (s : Int) < (J.used : Int) + (nb : Int) := by omega
        have e3 : ¬ (J.used : Int) + (nb : Int) ≤ (s : Int) := by omega
        have HAP := hid (show Calls Try.prog 45 #[.pointer (some ⟨j, 0, none⟩), .slice Br r.length cr] wr fun x w' => x = .returned (.int .i64 7) ∧ St w (Strs (.slice C ws.length e) ws :: Disk p T :: Blk j (jourV p J) 114 :: Row (.slice (some ⟨gi, oi, none⟩) ins.length d) 22 1 ins.length xs :: [Vals xs ins]) w' from HAP.out)
        clear hfull hTa2
        go_wp2_with (first | (go_at_call 45; (with_reducible refine HAP.out.mono ?_); rintro x w2 ⟨rfl, hs2⟩; have H2 := hid hs2; clear hs2) | (go_at_call 49; (with_reducible refine (HBK.out _).mono ?_); rintro x w3 ⟨rfl, rfl⟩))
        go_roundw
        case rel => exact ⟨k + 1, T, J, ws, C, e, by omega, by go_num, rfl, rfl, hJu, HJ, HTA, HTL, HTK, HQ, H2⟩
        case measure => simp [intOf]; omega
      · obtain ⟨rfl, hq2⟩ : ea = 0 ∧ Quiet T ⟨3, s, 0, 0⟩ (ws ++ [r]) (J.more r.length) := by
          rcases hq with h | ⟨h, _⟩
          · exact h
          · exact absurd h hTa2
        have HQ2 := hid hq2
        have HLB := hid (HQ.out.lastBlocks hq2)
        clear hq hq2 hTa2
        have e2 : ¬ (s : Int) < (J.used : Int) + (nb : Int) := by omega
        have HAP := hid (show Calls Try.prog 45 #[.pointer (some ⟨j, 0, none⟩), .slice Br r.length cr] wr fun x w' => x = .returned (.int .i64 0) ∧ St w (Strs (.slice C ws.length e) ws :: Disk p T :: Blk j (jourV p (J.more r.length)) 114 :: Row (.slice (some ⟨gi, oi, none⟩) ins.length d) 22 1 ins.length xs :: [Vals xs ins]) w' from HAP.out)
        have HLY := hid (fun X (M : List Atm) (hX : St w M X) => show Calls Try.prog 52 #[.int .i64 ws.length, .string (strB r)] X fun x w' => ∃ B d, x = .returned (.slice B nb d) ∧ St w (Row (.slice B nb d) 32 128 nb (layV J.n nb r) :: M) w' from by
          have := lay_st (n := ws.length) (r := r) hX (by have := HFJ.out; omega) (by omega)
          rw [← HNB.out, ← HFJ.out.2.2.1] at this
          rw [← HFJ.out.2.2.1]
          exact this)
        go_wp2_with (first | (go_at_call 45; (with_reducible refine HAP.out.mono ?_); rintro x w2 ⟨rfl, hs2⟩; obtain ⟨hc2, hb2⟩ := HC.out w2 _ hs2.drop.drop.drop; have CV2 := conv_bytes hb2 r.length cr rfl; rw [sv_eq] at CV2; have H2 := hid hs2; clear hs2 hb2) | (go_at_call 49; (with_reducible refine (HBK.out _).mono ?_); rintro x w3 ⟨rfl, rfl⟩) | (go_at_call 52; (with_reducible refine (HLY.out _ _ H2.out).mono ?_); rintro x w4 ⟨D, dl, rfl, hs4⟩; have H4 := hid hs4; clear hs4))
        clear HS CV hc HAP hc2 CV2 H2
        go_loopw [15, 16, 17] (fun v _ _ X => ∃ k2 : Nat, k2 ≤ nb ∧ v = .int .i64 k2 ∧ Hid (St w (Row (.slice D nb dl) 32 128 nb (layV J.n nb r) :: Strs (.slice C ws.length e) ws :: Disk p T :: Blk j (jourV p (J.more r.length)) 114 :: Row (.slice (some ⟨gi, oi, none⟩) ins.length d) 22 1 ins.length xs :: [Vals xs ins]) X)) (fun v _ _ _ => nb - (intOf v).toNat)
        case atStart => exact ⟨0, Nat.zero_le _, rfl, H4⟩
        case round =>
          clear H4
          obtain ⟨k2, hk2, rfl, HS⟩ := hrel
          by_cases hlt2 : k2 < nb
          · have e4 : (k2 : Int) < (nb : Int) := by omega
            have e0 : (0 : Int) ≤ (k2 : Int) := by omega
            obtain ⟨gl, rfl, hld⟩ := lay_load HS.out hlt2
            have HLD := hid hld
            obtain ⟨bq, hbq⟩ : ∃ bq, bq = blockB J.n k2 r := ⟨_, rfl⟩
            have hbq2 : bq.length = 128 := by rw [hbq]; exact blockB_len _ _ _
            have HBQ := hid ((bv_size bq).trans hbq2)
            rw [← hbq] at HLD
            have HRD := hid (show ∀ (X : World) (M : List Atm), St w (Disk p T :: M) X → Calls Try.prog 18 #[.pointer (some ⟨p, 0, none⟩), .int .i64 ((3 : Int) + (J.used : Int) + (k2 : Int))] X fun x X' => x = .returned (.tuple #[.agg (bv bq), .int .i64 0]) ∧ St w (Disk p T :: M) X' from fun X M hX => by
              have hat : T.at_ ((3 + J.used + k2 : Nat) : Int) = 0 := by rw [at_in (by rw [HTL.out]; omega), HQ2.out.on]; rfl
              have hget := HLB.out k2 (by rw [← HNB.out]; exact hlt2)
              rw [HFJ.out.1] at hget
              rw [show (3 : Int) + (J.used : Int) + (k2 : Int) = ((3 + J.used + k2 : Nat) : Int) by omega]
              exact (read_rd hX HTK.out _).mono fun x X' hx => ⟨by rw [hx.1, hat, hbq]; unfold DS.rd; rw [if_pos hat, Int.toNat_natCast, hget], hx.2⟩)
            clear hbq hld
            have CM := fun (x y : Operand) (W : World) => run_cmpK_neq (P := Try.prog) guard32 Try.underlying32 be5 cells5 hbq2 hbq2 x y W
            simp only [decide_true, Bool.not_true] at CM
            go_wp2_with (first | (go_at_call 18; (with_reducible refine (HRD.out _ _ HS.out.at3).mono ?_); rintro x w6 ⟨rfl, hs6⟩; have H6 := hid hs6.back3; clear hs6) | (refine wpList_alloc 33 rfl rfl (.agg (bv zeroB)) zero33 ?_; intro gA W7 hA hal hag hW7) | (refine wpList_store_box 33 _ _ rfl gA rfl rfl (bv bq) rfl 128 size33 HBQ.out (bv_one _) 33 _ hA bvz ?_; intro W8 hA8 hT8 hs8; have H9 := hid ((H6.out.newBlk hW7 hag hA).put hA8 hT8); clear hA8 hT8 hs8 hA hal hag hW7))
            have H10 := hid (H9.out.turn (Below.drew (Below.refl _ _)))
            have LA : (loadK 33 (.pointer (some ⟨gA, 0, none⟩))).run Try.prog W8.drew = .ok (.value (.agg (bv bq))) W8.drew := run_loadK_box H10.out.blk Try.underlying33 rfl size33 HBQ.out
            have LB := HLD.out _ H10.out.drop
            clear H9 HLD
            refine wp_region_ord [] [(0, 1), (1, 1), (2, 1), (3, 1), (4, 1), (5, 1), (6, 1), (7, 1), (8, 1), (9, 1)] (fun X => X = World.drew W8) (by kernel_rfl) (by kernel_rfl) (fun d _ c _ _ h => by cases d <;> exact h) rfl (fun X hXe _ => ?_)
            subst hXe
            repeat (apply wpOrd_class; ((· first | (rw [List.getElem?_toArray, List.getElem?_cons_zero]; done) | (simp only [List.getElem?_toArray, List.getElem?_cons_succ, List.getElem?_cons_zero]; exact rfl))); (· exact rfl); intro K hK; apply Exists.intro; refine And.intro (fun X' hX' => ?_) ?_; (· go_simp; (try go_bits); first | done | exact rfl | exact ⟨rfl, rfl⟩); go_simp; refine hK _ _ ?_; clear hK K)
            refine wpOrd_done ?_
            clear LA LB
            go_wp2_with fail
            go_roundw
            case rel => exact ⟨k2 + 1, by omega, by go_num, hid H10.out.drop⟩
            case measure => simp [intOf]; omega
          · have e4 : ¬ (k2 : Int) < (nb : Int) := by omega
            obtain rfl : k2 = nb := by omega
            obtain ⟨i9, hi, hiz, his, hib⟩ := info_parts info9
            have HI := hid (And.intro hi (And.intro hiz (And.intro his hib)))
            clear hi hiz his hib
            have hw1 : ws.length ≤ 100 := by have := HFJ.out; omega
            have H5 := hid HS.out.drop
            clear HS
            go_wp2_with (first | (refine wpList_buildSlice1 _ rfl (.string (strB r)) (by simp [Act.eval]) rfl Try.underlying90 zero9 size9 (by decide) (by decide) rfl ?_; intro gn X2 hS hgs hges hX1b; have HS2 := hid (H5.out.turn hX1b); have HNW := hid (news_box hS [sv r] rfl); clear hS hgs hges hX1b) | (refine wpList_append_at _ _ _ rfl (.slice C ws.length e) rfl ⟨gn, 0, none⟩ 1 1 rfl rfl 9 i9 (.string ByteArray.empty) 1 16 Try.underlying90 HI.out.1 HI.out.2.1 HI.out.2.2.1 HI.out.2.2.2 rfl (by decide) ws.length (ws.map sv) HS2.out.row [sv r] rfl HNW.out (by simp [sv, Value.oneCell']) (by unfold maxLen; omega) (by omega) ?_; intro v' X3 hO2 hT2 hfr; have HS3 := hid (HS2.out.grow hO2 hT2 hfr); clear hO2 hT2 hfr))
            rw [← HT2.out] at HS3
            obtain ⟨C2, e2', rfl, _⟩ := row_slice HS3.out
            have hmu : (J.more r.length).used = J.used + k2 := by rw [HNB.out]; rfl
            go_roundw
            case rel => exact ⟨k + 1, T, J.more r.length, ws ++ [r], C2, e2', by omega, by go_num, by rw [hmu]; go_num, by simp, by omega, hid ⟨HFJ.out.1, HFJ.out.2.1, by show J.n + 1 = _; rw [HFJ.out.2.2.1, List.length_append]; rfl, by rw [hmu]; show J.n + 1 ≤ _; have := HFJ.out; omega⟩, HTA, HTL, HTK, HQ2, hid (by
              show St w (Row (.slice C2 (ws ++ [r]).length e2') 9 1 (ws ++ [r]).length ((ws ++ [r]).map sv) :: _) _
              rw [List.length_append]
              exact HS3.out)⟩
            case measure => simp [intOf]; omega
    · have e1 : ¬ (k : Int) < (ins.length : Int) := by omega
      obtain ⟨f1, f2, f3, f4⟩ := HJ.out
      have HJE := hid (And.intro f1 (And.intro f2 (And.intro f3 f4)))
      obtain ⟨mm, hmm⟩ : ∃ mm, mm = s - J.used := ⟨_, rfl⟩
      have em : (s : Int) - (J.used : Int) = (mm : Int) := by omega
      have hw1 : ws.length ≤ 100 := by omega
      have HN2 := hid (show (J.n : Int) = (ws.length : Int) by omega)
      have HOP := hid (show ∀ X (M : List Atm), St w (Disk p S :: M) X → Calls Try.prog 42 #[.pointer (some ⟨p, 0, none⟩), .int .i64 3, .int .i64 s] X fun r w' => ∃ (j2 : Nat) (A2 : Option Addr) (c2 : Nat), r = .returned (.tuple #[.pointer (some ⟨j2, 0, none⟩), .slice A2 ws.length c2, .int .i64 0]) ∧
        St w (Recs (.slice A2 ws.length c2) ws :: Disk p S :: Blk j2 (jourV p J) 114 :: M) w' from fun X M hX => by
        refine (open_st (first := 3) (size := s) hX HK.out HQ.out.on hs1 (by rw [HL.out]; omega) (HQ.out.read (Nat.le_refl _))).mono ?_
        rintro r w' ⟨j2, A2, c2, xs2, hr, hs⟩
        exact ⟨j2, A2, c2, hr, hs.recs⟩)
      have HTX := hid (fun (A2 : Option Addr) (c2 : Nat) X (M : List Atm) (hX : St w (Recs (.slice A2 ws.length c2) ws :: M) X) => texts_st (c := c2) hX (fun Y hY => hY.recsIn) (by omega))
      have HSM := hid (fun (B3 C3 : Option Addr) (d3 e3 : Nat) X (h1 : TextsIn X B3 ws) (h2 : TextsIn X C3 ws) => show Calls Try.prog 53 #[.slice B3 ws.length d3, .slice C3 ws.length e3] X fun r w' => r = .returned (.bool true) ∧ Below X.heap.size X w' from by
        have := same_ok (c := d3) (d := e3) X h1 h2 (by omega)
        rw [show (ws == ws) = true by simp] at this
        exact this)
      have HLN := hid (fun (j : Nat) (M : List Atm) X (hX : St w (Blk j (jourV p J) 114 :: M) X) => show Calls Try.prog 46 #[.pointer (some ⟨j, 0, none⟩)] X fun r w' => r = .returned (.int .i64 ws.length) ∧ X = w' from by
        have := len_st hX
        rw [HN2.out] at this
        exact this)
      have HRM := hid (fun (j : Nat) (M : List Atm) X (hX : St w (Blk j (jourV p J) 114 :: M) X) => show Calls Try.prog 47 #[.pointer (some ⟨j, 0, none⟩)] X fun r w' => r = .returned (.int .i64 mm) ∧ St w (Blk j (jourV p J) 114 :: M) w' from room_st hX (by omega) (by omega) (by omega))
      have HWT := hid (fun (M : List Atm) X (hX : St w (Disk p S :: M) X) => show Calls Try.prog 27 #[.pointer (some ⟨p, 0, none⟩)] X fun r w' => r = .returned (.int .i64 0) ∧ X = w' from by
        have := waiting_st hX
        rw [HQ.out.wait] at this
        exact this)
      clear f1 f2 f3 f4 hmm
      go_wp2_with (first | (go_at_call 42; (with_reducible refine (HOP.out _ _ HS.out.at2).mono ?_); rintro r w2 ⟨j2, A2, c2, rfl, hs2⟩; have H2 := hid hs2; clear hs2) | (go_at_call 54; (with_reducible refine (HTX.out _ _ _ _ H2.out).mono ?_); rintro r w3 ⟨B3, d3, rfl, hs3⟩; have H3 := hid hs3; clear hs3) | (go_at_call 53; (with_reducible refine (HSM.out _ _ _ _ _ H3.out.textsIn H3.out.at5.textsIn).mono ?_); rintro r w4 ⟨rfl, hb4⟩; have H4 := hid (H3.out.drop.drop.turn hb4).at3.drop; clear hb4) | (go_at_call 46; (first | (with_reducible refine (HLN.out j2 _ _ H4.out.at2).mono ?_) | (with_reducible refine (HLN.out j _ _ H4.out.at3).mono ?_)); rintro r w5 ⟨rfl, rfl⟩) | (go_at_call 47; first | (with_reducible refine (HRM.out j2 _ _ H4.out.at2).mono ?_; rintro r w7 ⟨rfl, hs7⟩; have H7 := hid hs7; clear hs7) | (with_reducible refine (HRM.out j _ _ H7.out.at3).mono ?_; rintro r w8 ⟨rfl, hs8⟩; have H8 := hid hs8; clear hs8)) | (go_at_call 27; (with_reducible refine (HWT.out _ _ H8.out.at3).mono ?_); rintro r w9 ⟨rfl, rfl⟩))
      go_ret
      exact ⟨rfl, H8.out.below⟩
end Go.Proofs.Ythmchbdhikakhaa
/- JournalLays: in every row of records each is written as the chapter says, or there is no room; all are there again; for all sizes and records. -/
namespace Go.Proofs.Ythmchbdhikakhaa
open Go.ChangeShapes Go.WideShapes Go.ChangeAt Go.RowKit Go.Cu
theorem own : ownKnob Try.prog.godebug = none := by kernel_rfl
theorem laidOut : laidOutB Try.prog = true := by kernel_rfl
set_option maxRecDepth 100000 in
theorem journalLays_lifted (os : Os) (started : os.Started) (H : Type) (enc : TypeId × Value → H) :
    ReturnsInHanded {} Try.checked os 10 .any (Rows.journalLaysSpec.pre6 enc Try.prog Try.f10 Rows.journalLaysRow.domain false) (Rows.journalLaysSpec.post enc Try.prog Try.f10 false true false false) := by
  refine returnsInHanded_of_change (C := Try.checked) own started (by kernel_rfl) Try.func10
    (ChangeSpec.witness6 (enc := enc) (C := Try.checked) false ⟨#[], #[.int .i64 0, .slice none 0 0], []⟩ 8 (by kernel_rfl) (by kernel_rfl) (by kernel_rfl) (by kernel_rfl)) ?_
  intro W base args ds gs before hval0 hW _ _
  have hval : ∀ (j : Nat) t v, Try.f10.params[j]? = some t → args[j]? = some v → Value.okWide Try.prog W .any base t v := hval0
  have hW' := hW
  obtain ⟨p, q, hA0, hV, rfl, hfz, hnd⟩ := hW
  have hA : DataW.TrodAll enc Try.prog W 0 (fun _ => true) true Try.f10.params.toList args.toList ds p := hA0
  rw [Try.params10] at hA hval
  obtain ⟨v0, vs0, d0, ds0, p0, q0, hargs, rfl, rfl, h0, r0⟩ := trodAll_cons hA
  obtain ⟨v1, vs1, d1, ds1, p1, q1, rfl, rfl, rfl, h1, r1⟩ := trodAll_cons r0
  obtain ⟨rfl, rfl, rfl⟩ := trodAll_nil r1
  obtain rfl : args = #[v0, v1] := by cases args; simp_all
  obtain ⟨rfl, rfl⟩ := trodVars_none hV
  have k0 := h0
  have lt0 : ∀ x ∈ p0, x.block < W.heap.size := by obtain ⟨m, hm⟩ := k0; exact DataW.trod_lt m _ _ _ hm
  have k1 := h1
  have lt1 : ∀ x ∈ p1, x.block < W.heap.size := by obtain ⟨m, hm⟩ := k1; exact DataW.trod_lt m _ _ _ hm
  obtain ⟨a0, rfl, rfl, rfl, w0⟩ := open_int Try.underlying3 (hval 0 3 v0 rfl rfl) h0
  obtain ⟨A1, c1, rs1, rfl, hin1⟩ := param_recs Try.underlying81 Try.underlying22 Try.underlying5 (by kernel_rfl) (by kernel_rfl) (hval 1 81 v1 rfl rfl) h1
  clear hA0 hval0
  refine (jlays_walk W hin1).mono fun e W' ⟨he, bel⟩ => ?_
  subst he
  exact ⟨_, rfl, _, _, _, [], _, [], hW', trodAll_mk1 (shut_bool Try.underlying4 _), (trodAll_cons_mk (Below.trod laidOut (by kernel_rfl) (of_decide_eq_true (by kernel_rfl)) k0 bel lt0) (trodAll_cons_mk (Below.trod laidOut (by kernel_rfl) (of_decide_eq_true (by kernel_rfl)) k1 bel lt1) trodAll_mk0)), rfl, bel.frame _, fun h => by cases h⟩

theorem journalLays_holds : Rows.JournalLaysSaid :=
  OpenClaim.holds_of_wide 10 Try.f10 rfl rfl rfl rfl rfl rfl rfl ⟨rfl, rfl, rfl, rfl, rfl⟩ rfl rfl rfl rfl rfl (by kernel_rfl) Try.func10 (by kernel_rfl)
    (of_decide_eq_true (by kernel_rfl)) (by unfold Func.isWrapper; first | (rw [if_pos (by decide +kernel)]; kernel_rfl) | (rw [if_neg (by decide +kernel)]; exact ⟨rfl, rfl⟩))
    (fun os started H enc _ => journalLays_lifted os started H enc)

end Go.Proofs.Ythmchbdhikakhaa
