/- Clear and Foul of extents; the story of them. -/
import Derived.Test.YthmchbdhikakhaaExtZero
import Derived.Test.YthmchbdhikakhaaSep2
namespace Go.Proofs.Ythmchbdhikakhaa
open Go.RowKit Go.Cu
theorem clear_nil (i : Int) (w : World) : Calls Try.prog 33 #[.pointer none, .int .i64 i] w fun r w' => r = .returned (.tuple #[.bool false, .int .i64 1]) ∧ w = w' := by
  go_enter Try.func33, Try.ntmps33
  go_wp2_with (go_at_call 35; (with_reducible refine (area_nil _ _).mono ?_); rintro r w1 ⟨rfl, rfl⟩)
  go_ret2
  exact ⟨rfl, rfl⟩
theorem foul_nil (w : World) : Calls Try.prog 36 #[.pointer none] w fun r w' => r = .returned (.tuple #[.slice none 0 0, .int .i64 1]) ∧ w = w' := by
  go_enter Try.func36, Try.ntmps36
  go_wp2
  go_ret2
  exact ⟨rfl, rfl⟩
section
variable {W0 W : World} {L : List Atm} {p x : Nat} {S : DS} {N : Nat} {e : Ex}
set_option maxRecDepth 20000 in
set_option maxHeartbeats 4000000 in
theorem clear_st (h : St W0 (Disk p S :: Blk x (extV p e) 111 :: L) W) (hok : S.Ok N) (he : e.Ok S.now.length) (ho : S.off = false) {i : Nat} (hi : i < e.count) :
    Calls Try.prog 33 #[.pointer (some ⟨x, 0, none⟩), .int .i64 i] W fun r w' => r = .returned (.tuple #[.bool (S.clear (e.first + i * e.size) e.size), .int .i64 0]) ∧ St W0 (Disk p S :: Blk x (extV p e) 111 :: L) w' := by
  have HA := hid (area_in h.at2.blk he hi)
  have hin := he.within hi
  have hbig := he.big
  have HH := hid h
  have HOK := hid hok
  obtain ⟨pos, hpos⟩ : ∃ pos, pos = e.first + i * e.size := ⟨_, rfl⟩
  rw [← hpos] at HA hin ⊢
  obtain ⟨R, hR⟩ : ∃ R, R = S.clear pos e.size := ⟨_, rfl⟩
  rw [← hR]
  have HR := hid hR
  have BZ := fun W => run_buildK (build33 W)
  have hcs := he.s2
  have HO := hid ho
  clear h hok he hi hpos hR ho
  go_enter Try.func33, Try.ntmps33
  go_wp2_with (go_at_call 35; (with_reducible refine HA.out.mono ?_); rintro r w1 ⟨rfl, hb1⟩; have H1 := hid (HH.out.turn hb1); clear hb1)
  clear HH
  go_loopw [23] (fun v X => ∃ k : Nat, k ≤ e.size ∧ v = .int .i64 k ∧ Hid (∀ j, j < k → S.now.getD (pos + j) zeroB = zeroB) ∧ Hid (St W0 (Disk p S :: Blk x (extV p e) 111 :: L) X)) (fun v _ => e.size - (intOf v).toNat)
  case atStart => exact ⟨0, by omega, rfl, hid (fun j hj => absurd hj (by omega)), H1⟩
  case round =>
    clear H1
    obtain ⟨k, hk, rfl, HZ, HS⟩ := hrel
    obtain ⟨x0, x1, x2, x3⟩ := ext_cells HS.out.at2.blk
    clear x1 x2 x3
    by_cases hlt : k < e.size
    · have e1 : (k : Int) < (e.size : Int) := by omega
      obtain ⟨pk, hpk⟩ : ∃ pk : Nat, pk = pos + k := ⟨_, rfl⟩
      have hpl : pk < S.now.length := by omega
      have epk : (pos : Int) + (k : Int) = (pk : Int) := by omega
      have HPK := hid hpk
      have hat : S.at_ (pk : Int) = 0 := by rw [at_in hpl, HO.out]; rfl
      obtain ⟨V, hV⟩ : ∃ V, V = S.now.getD pk zeroB := ⟨_, rfl⟩
      have HVL := hid (show V.length = 128 by rw [hV]; exact full_getD HOK.out.now _)
      have HVZ := hid ((bv_size V).trans HVL.out)
      have HRD := hid (show ∀ X, St W0 (Disk p S :: Blk x (extV p e) 111 :: L) X → Calls Try.prog 18 #[.pointer (some ⟨p, 0, none⟩), .int .i64 pk] X fun x' X' => x' = .returned (.tuple #[.agg (bv V), .int .i64 0]) ∧ St W0 (Disk p S :: Blk x (extV p e) 111 :: L) X' from fun X h => (read_rd h HOK.out _).mono fun x' X' hx => ⟨by rw [hx.1, hat, hV]; unfold DS.rd; rw [if_pos hat, Int.toNat_natCast], hx.2⟩)
      have CM := fun (x y : Operand) (W : World) => run_cmpK_neq (P := Try.prog) guard33 Try.underlying33 be5 cells5 HVL.out zeroB_len x y W
      have HVV := hid (show V = S.now.getD (pos + k) zeroB by rw [hV, hpk])
      clear hpk
      by_cases hz : V = zeroB
      · simp only [hz, decide_true, Bool.not_true] at CM
        have HK := hid (show ∀ j, j < k + 1 → S.now.getD (pos + j) zeroB = zeroB from fun j hj => by
          by_cases h1 : j < k
          · exact HZ.out j h1
          · have : j = k := by omega
            rw [this, ← HVV.out]; exact hz)
        subst hz
        clear hV hat HVV
        go_wp2_with (first | (go_at_call 18; (with_reducible refine (HRD.out _ HS.out).mono ?_); rintro x' w6 ⟨rfl, hs6⟩; have HS6 := hid hs6; clear hs6) | (refine wpList_alloc 33 rfl rfl (.agg (bv zeroB)) zero33 ?_; intro gA W7 hA hal hag hW7) | (refine wpList_store_box 33 _ _ rfl gA rfl rfl (bv zeroB) rfl 128 size33 HVZ.out (bv_one _) 33 _ hA bvz ?_; intro W8 hA8 hT8 hs8; have H5 := hid ((HS6.out.newBlk hW7 hag hA).put hA8 hT8).back3; have LA : (loadK 33 (.pointer (some ⟨gA, 0, none⟩))).run Try.prog W8 = .ok (.value (.agg (bv zeroB))) W8 := run_loadK_box hA8 Try.underlying33 rfl size33 HVZ.out))
        go_roundw
        case rel => exact ⟨k + 1, by omega, by go_num, HK, hid H5.out.drop3⟩
        case measure => simp [intOf]; omega
      · simp only [hz, decide_false, Bool.not_false] at CM
        have HF := hid (show R = false by
          rw [HR.out]
          cases hc : S.clear pos e.size with
          | false => rfl
          | true => exact absurd (HVV.out.trans (clear_iff.1 hc k hlt)) hz)
        clear hV hat HVV hz
        go_wp2_with (first | (go_at_call 18; (with_reducible refine (HRD.out _ HS.out).mono ?_); rintro x' w6 ⟨rfl, hs6⟩; have HS6 := hid hs6; clear hs6) | (refine wpList_alloc 33 rfl rfl (.agg (bv zeroB)) zero33 ?_; intro gA W7 hA hal hag hW7) | (refine wpList_store_box 33 _ _ rfl gA rfl rfl (bv V) rfl 128 size33 HVZ.out (bv_one _) 33 _ hA bvz ?_; intro W8 hA8 hT8 hs8; have H5 := hid ((HS6.out.newBlk hW7 hag hA).put hA8 hT8).back3; have LA : (loadK 33 (.pointer (some ⟨gA, 0, none⟩))).run Try.prog W8 = .ok (.value (.agg (bv V))) W8 := run_loadK_box hA8 Try.underlying33 rfl size33 HVZ.out))
        go_ret2
        rw [HF.out]
        exact ⟨rfl, H5.out.drop3⟩
    · have e1 : ¬ (k : Int) < (e.size : Int) := by omega
      have HT := hid (show R = true by
        rw [HR.out, clear_iff]
        exact fun j hj => HZ.out j (by omega))
      go_wp2
      go_ret2
      rw [HT.out]
      exact ⟨rfl, HS.out⟩
end
end Go.Proofs.Ythmchbdhikakhaa
