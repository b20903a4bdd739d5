/- Zero of extents. -/
import Derived.Test.YthmchbdhikakhaaExtNew
namespace Go.Proofs.Ythmchbdhikakhaa
open Go.RowKit Go.Cu
theorem zeros_stop {S : DS} {m p : Nat} (h : (S.zstep p).2 ≠ 0) : S.zeros (m + 1) p = S.zstep p := by
  rw [DS.zeros, if_pos h]
theorem zeros_go {S : DS} {m p : Nat} (h : (S.zstep p).2 = 0) : S.zeros (m + 1) p = (S.zstep p).1.zeros m (p + 1) := by
  rw [DS.zeros, if_neg (by rw [h]; decide)]
section
variable {W0 W : World} {L : List Atm} {p x : Nat} {S : DS} {N : Nat} {e : Ex}
theorem zero_out (h : St W0 (Disk p S :: Blk x (extV p e) 111 :: L) W) {n : Nat} (he : e.Ok n) {i : Int} (hi : i < 0 ∨ (e.count : Int) ≤ i) :
    Calls Try.prog 32 #[.pointer (some ⟨x, 0, none⟩), .int .i64 i] W fun r w' => r = .returned (.int .i64 1) ∧ W = w' := by
  have HA := hid (area_out h.at2.blk he hi)
  clear h he hi
  go_enter Try.func32, Try.ntmps32
  go_wp2_with (go_at_call 35; (with_reducible refine HA.out.mono ?_); rintro r w1 ⟨rfl, rfl⟩)
  go_ret
  exact ⟨rfl, rfl⟩
theorem zero_nil (i : Int) (w : World) : Calls Try.prog 32 #[.pointer none, .int .i64 i] w fun r w' => r = .returned (.int .i64 1) ∧ w = w' := by
  go_enter Try.func32, Try.ntmps32
  go_wp2_with (go_at_call 35; (with_reducible refine (area_nil _ _).mono ?_); rintro r w1 ⟨rfl, rfl⟩)
  go_ret
  exact ⟨rfl, rfl⟩
set_option maxRecDepth 20000 in
set_option maxHeartbeats 4000000 in
theorem zero_st (h : St W0 (Disk p S :: Blk x (extV p e) 111 :: L) W) (hok : S.Ok N) (he : e.Ok S.now.length) (hN : N + e.size ≤ 1000000) {i : Nat} (hi : i < e.count) :
    Calls Try.prog 32 #[.pointer (some ⟨x, 0, none⟩), .int .i64 i] W fun r w' => r = .returned (.int .i64 (S.zeros e.size (e.first + i * e.size)).2) ∧ St W0 (Disk p (S.zeros e.size (e.first + i * e.size)).1 :: Blk x (extV p e) 111 :: L) w' := by
  have HA := hid (area_in h.at2.blk he hi)
  have hin := he.within hi
  have hbig := he.big
  have HH := hid h
  have HOK := hid hok
  obtain ⟨pos, hpos⟩ : ∃ pos, pos = e.first + i * e.size := ⟨_, rfl⟩
  rw [← hpos] at HA hin ⊢
  obtain ⟨R, hR⟩ : ∃ R, R = S.zeros e.size pos := ⟨_, rfl⟩
  rw [← hR]
  have HR := hid hR
  have BZ := fun W => run_buildK (build33 W)
  have hcs := he.s2
  clear h hok he hi hpos hR
  go_enter Try.func32, Try.ntmps32
  go_wp2_with (go_at_call 35; (with_reducible refine HA.out.mono ?_); rintro r w1 ⟨rfl, hb1⟩; have H1 := hid (HH.out.turn hb1); clear hb1)
  clear HH
  go_loopw [22] (fun v X => ∃ k : Nat, k ≤ e.size ∧ v = .int .i64 k ∧ ∃ T : DS, Hid (T.zeros (e.size - k) (pos + k) = R) ∧ Hid (T.Ok (N + k)) ∧ Hid (T.now.length = S.now.length) ∧ Hid (St W0 (Disk p T :: Blk x (extV p e) 111 :: L) X)) (fun v _ => e.size - (intOf v).toNat)
  case atStart => exact ⟨0, by omega, rfl, S, hid HR.out.symm, HOK, hid rfl, H1⟩
  case round =>
    clear H1
    obtain ⟨k, hk, rfl, T, HZ, HTO, HTL, HS⟩ := hrel
    obtain ⟨x0, x1, x2, x3⟩ := ext_cells HS.out.at2.blk
    clear x1 x2 x3
    by_cases hlt : k < e.size
    · have e1 : (k : Int) < (e.size : Int) := by omega
      obtain ⟨m, hm⟩ : ∃ m, e.size - k = m + 1 := ⟨e.size - k - 1, by omega⟩
      rw [hm] at HZ
      have HM := hid (show e.size - (k + 1) = m by omega)
      obtain ⟨pk, hpk⟩ : ∃ pk : Nat, pk = pos + k := ⟨_, rfl⟩
      have hpl : pk < T.now.length := by rw [HTL.out]; omega
      have epk : (pos : Int) + (k : Int) = (pk : Int) := by omega
      rw [← hpk] at HZ
      have HPK := hid hpk
      have hpk2 : pk + 1 = pos + (k + 1) := by omega
      have HPK2 := hid hpk2
      clear hpk hm hpk2
      cases ho : T.off
      · have hat : T.at_ (pk : Int) = 0 := by rw [at_in hpl, ho]; rfl
        obtain ⟨V, hV⟩ : ∃ V, V = T.now.getD pk zeroB := ⟨_, rfl⟩
        have HVL := hid (show V.length = 128 by rw [hV]; exact full_getD HTO.out.now _)
        have HVZ := hid ((bv_size V).trans HVL.out)
        have HRD := hid (show ∀ X, St W0 (Disk p T :: Blk x (extV p e) 111 :: L) X → Calls Try.prog 18 #[.pointer (some ⟨p, 0, none⟩), .int .i64 pk] X fun x' X' => x' = .returned (.tuple #[.agg (bv V), .int .i64 0]) ∧ St W0 (Disk p T :: Blk x (extV p e) 111 :: L) X' from fun X h => (read_rd h HTO.out _).mono fun x' X' hx => ⟨by rw [hx.1, hat, hV]; unfold DS.rd; rw [if_pos hat, Int.toNat_natCast], hx.2⟩)
        have CM := fun (x y : Operand) (W : World) => run_cmpK_neq (P := Try.prog) guard33 Try.underlying33 be5 cells5 HVL.out zeroB_len x y W
        by_cases hz : V = zeroB
        · have HST := hid (show T.zstep pk = (T, 0) by unfold DS.zstep; rw [if_neg (by simpa using hat), if_pos (by rw [← hV]; exact hz)])
          simp only [hz, decide_true, Bool.not_true] at CM
          subst hz
          clear hV hat ho
          go_wp2_with (first | (go_at_call 18; (with_reducible refine (HRD.out _ HS.out).mono ?_); rintro x' w6 ⟨rfl, hs6⟩; have HS6 := hid hs6; clear hs6) | (refine wpList_alloc 33 rfl rfl (.agg (bv zeroB)) zero33 ?_; intro gA W7 hA hal hag hW7) | (refine wpList_store_box 33 _ _ rfl gA rfl rfl (bv zeroB) rfl 128 size33 HVZ.out (bv_one _) 33 _ hA bvz ?_; intro W8 hA8 hT8 hs8; have H5 := hid ((HS6.out.newBlk hW7 hag hA).put hA8 hT8).back3; have LA : (loadK 33 (.pointer (some ⟨gA, 0, none⟩))).run Try.prog W8 = .ok (.value (.agg (bv zeroB))) W8 := run_loadK_box hA8 Try.underlying33 rfl size33 HVZ.out; have y0 : W8.cell? ⟨x, 0, none⟩ = some (.pointer (some ⟨p, 0, none⟩)) := (ext_cells H5.out.at2.blk).1))
          go_roundw
          case rel => exact ⟨k + 1, by omega, by go_num, T, hid (by rw [HM.out, ← HPK2.out]; have := HZ.out; rw [zeros_go (by rw [HST.out]), HST.out] at this; exact this), hid (HTO.out.mono (by omega)), HTL, hid H5.out.drop3⟩
          case measure => simp [intOf]; omega
        · have HST := hid (show T.zstep pk = T.write (pk : Int) zeroB by unfold DS.zstep; rw [if_neg (by simpa using hat), if_neg (by rw [← hV]; exact hz)])
          simp only [hz, decide_false, Bool.not_false] at CM
          rcases (write_in ho hpl zeroB).2.2.2.1 with ⟨ha, _⟩ | ⟨ha, _⟩
          · have HA0 := hid ha
            clear hV hat ho hz ha
            go_wp2_with (first | (go_at_call 18; (with_reducible refine (HRD.out _ HS.out).mono ?_); rintro x' w6 ⟨rfl, hs6⟩; have HS6 := hid hs6; clear hs6) | (refine wpList_alloc 33 rfl rfl (.agg (bv zeroB)) zero33 ?_; intro gA W7 hA hal hag hW7) | (refine wpList_store_box 33 _ _ rfl gA rfl rfl (bv V) rfl 128 size33 HVZ.out (bv_one _) 33 _ hA bvz ?_; intro W8 hA8 hT8 hs8; have H5 := hid ((HS6.out.newBlk hW7 hag hA).put hA8 hT8).back3; have LA : (loadK 33 (.pointer (some ⟨gA, 0, none⟩))).run Try.prog W8 = .ok (.value (.agg (bv V))) W8 := run_loadK_box hA8 Try.underlying33 rfl size33 HVZ.out; have y0 : W8.cell? ⟨x, 0, none⟩ = some (.pointer (some ⟨p, 0, none⟩)) := (ext_cells H5.out.at2.blk).1) | (go_at_call 15; (with_reducible refine (write_st H5.out HTO.out (by omega) _ zeroB_len).mono ?_); rintro x' w9 ⟨hx, hs9⟩; rw [HA0.out] at hx; subst hx; have H6 := hid hs9; clear hs9))
            go_roundw
            case rel => exact ⟨k + 1, by omega, by go_num, (T.write (pk : Int) zeroB).1, hid (by rw [HM.out, ← HPK2.out]; have := HZ.out; rw [zeros_go (by rw [HST.out]; exact HA0.out), HST.out] at this; exact this), hid (HTO.out.write _ zeroB_len), hid ((write_len' T _ _).trans HTL.out), hid H6.out.drop3⟩
            case measure => simp [intOf]; omega
          · have HA0 := hid ha
            clear hV hat ho hz ha
            go_wp2_with (first | (go_at_call 18; (with_reducible refine (HRD.out _ HS.out).mono ?_); rintro x' w6 ⟨rfl, hs6⟩; have HS6 := hid hs6; clear hs6) | (refine wpList_alloc 33 rfl rfl (.agg (bv zeroB)) zero33 ?_; intro gA W7 hA hal hag hW7) | (refine wpList_store_box 33 _ _ rfl gA rfl rfl (bv V) rfl 128 size33 HVZ.out (bv_one _) 33 _ hA bvz ?_; intro W8 hA8 hT8 hs8; have H5 := hid ((HS6.out.newBlk hW7 hag hA).put hA8 hT8).back3; have LA : (loadK 33 (.pointer (some ⟨gA, 0, none⟩))).run Try.prog W8 = .ok (.value (.agg (bv V))) W8 := run_loadK_box hA8 Try.underlying33 rfl size33 HVZ.out; have y0 : W8.cell? ⟨x, 0, none⟩ = some (.pointer (some ⟨p, 0, none⟩)) := (ext_cells H5.out.at2.blk).1) | (go_at_call 15; (with_reducible refine (write_st H5.out HTO.out (by omega) _ zeroB_len).mono ?_); rintro x' w9 ⟨hx, hs9⟩; rw [HA0.out] at hx; subst hx; have H6 := hid hs9; clear hs9))
            go_ret
            have hz := HZ.out
            rw [zeros_stop (by rw [HST.out, HA0.out]; decide), HST.out] at hz
            rw [← hz, HA0.out]
            exact ⟨rfl, H6.out.drop3⟩
      · have hat : T.at_ (pk : Int) = 13 := by rw [at_in hpl, ho]; rfl
        have HST := hid (show T.zstep pk = (T, 13) by unfold DS.zstep; rw [if_pos (by rw [hat]; decide), hat])
        obtain ⟨V, hV⟩ : ∃ V, V = zeroB := ⟨_, rfl⟩
        have HVL := hid (show V.length = 128 by rw [hV]; exact zeroB_len)
        have HVZ := hid ((bv_size V).trans HVL.out)
        have HRD := hid (show ∀ X, St W0 (Disk p T :: Blk x (extV p e) 111 :: L) X → Calls Try.prog 18 #[.pointer (some ⟨p, 0, none⟩), .int .i64 pk] X fun x' X' => x' = .returned (.tuple #[.agg (bv V), .int .i64 13]) ∧ St W0 (Disk p T :: Blk x (extV p e) 111 :: L) X' from fun X h => (read_rd h HTO.out _).mono fun x' X' hx => ⟨by rw [hx.1, hat, hV]; unfold DS.rd; rw [if_neg (by rw [hat]; decide)], hx.2⟩)
        clear hV hat ho
        go_wp2_with (first | (go_at_call 18; (with_reducible refine (HRD.out _ HS.out).mono ?_); rintro x' w6 ⟨rfl, hs6⟩; have HS6 := hid hs6; clear hs6) | (refine wpList_alloc 33 rfl rfl (.agg (bv zeroB)) zero33 ?_; intro gA W7 hA hal hag hW7) | (refine wpList_store_box 33 _ _ rfl gA rfl rfl (bv V) rfl 128 size33 HVZ.out (bv_one _) 33 _ hA bvz ?_; intro W8 hA8 hT8 hs8; have H5 := hid ((HS6.out.newBlk hW7 hag hA).put hA8 hT8).back3; have LA : (loadK 33 (.pointer (some ⟨gA, 0, none⟩))).run Try.prog W8 = .ok (.value (.agg (bv V))) W8 := run_loadK_box hA8 Try.underlying33 rfl size33 HVZ.out; have y0 : W8.cell? ⟨x, 0, none⟩ = some (.pointer (some ⟨p, 0, none⟩)) := (ext_cells H5.out.at2.blk).1))
        go_ret
        have hz := HZ.out
        rw [zeros_stop (by rw [HST.out]; simp), HST.out] at hz
        rw [← hz]
        exact ⟨rfl, H5.out.drop3⟩
    · have e1 : ¬ (k : Int) < (e.size : Int) := by omega
      have e2 : k = e.size := by omega
      have HE := hid (show T.sync = R by have := HZ.out; rw [e2, Nat.sub_self] at this; exact this)
      clear e2
      go_wp2_with (go_at_call 16; (with_reducible refine (sync_st HS.out HTO.out (by omega)).mono ?_); rintro x' w5 ⟨rfl, hs5⟩; have HS5 := hid hs5; clear hs5)
      go_ret
      have h5 := HS5.out
      rw [HE.out] at h5 ⊢
      exact ⟨rfl, h5⟩
end
end Go.Proofs.Ythmchbdhikakhaa
