/- Part 3 of the texts below this law, put together: what each holds is said at its head. -/
import Derived.Test.YthmchbdhikakhaaJa2
import Derived.Deep.CutBlock
import Derived.Deep.DeepCutAuto
import Derived.Laws.CopyOwn
import Derived.Laws.IdiomCopy
import Derived.Lib.Bytes
import Derived.Laws.Bits64b
import Derived.Laws.BitsLemmas
/- New, Zero, Clear, Foul of extents. -/
namespace Go.Proofs.Ythmchbdhikakhaa
open Go.RowKit Go.Cu
set_option maxHeartbeats 400000 in
theorem xnew_nil (f c s : Int) (w : World) : Calls Try.prog 30 #[.pointer none, .int .i64 f, .int .i64 c, .int .i64 s] w fun r w' => r = .returned (.tuple #[.pointer none, .int .i64 1]) ∧ w = w' := by
  go_enter Try.func30, Try.ntmps30
  go_wp2
  go_ret2
  exact ⟨rfl, rfl⟩
/-- Are the blocks there? -/
def fine (n f c s : Int) : Prop := 1 ≤ c ∧ 1 ≤ s ∧ 0 ≤ f ∧ c ≤ n ∧ s ≤ n ∧ f ≤ n - c * s
section
variable {W0 W : World} {L : List Atm} {p : Nat} {S : DS} {N : Nat}
set_option maxHeartbeats 1000000 in
theorem xnew_bad (h : St W0 (Disk p S :: L) W) (hok : S.Ok N) {f c s n : Int} (hn : n = S.now.length) (hb : ¬ fine n f c s) :
    Calls Try.prog 30 #[.pointer (some ⟨p, 0, none⟩), .int .i64 f, .int .i64 c, .int .i64 s] W fun r w' => r = .returned (.tuple #[.pointer none, .int .i64 1]) ∧ W = w' := by
  have hbig := hok.big
  have HS := hid (size_st h)
  rw [← hn] at HS
  have hn0 : 0 ≤ n := by omega
  have hn1 : n ≤ 8192 := by omega
  unfold fine at hb
  clear h hok hn hbig
  by_cases g0 : c < 1
  · clear hb
    go_enter Try.func30, Try.ntmps30
    go_wp2_with (go_at_call 29; (with_reducible refine HS.out.mono ?_); rintro x w' ⟨rfl, rfl⟩)
    go_ret2
    exact ⟨rfl, rfl⟩
  by_cases g1 : s < 1
  · clear hb
    go_enter Try.func30, Try.ntmps30
    go_wp2_with (go_at_call 29; (with_reducible refine HS.out.mono ?_); rintro x w' ⟨rfl, rfl⟩)
    go_ret2
    exact ⟨rfl, rfl⟩
  by_cases g2 : f < 0
  · clear hb
    go_enter Try.func30, Try.ntmps30
    go_wp2_with (go_at_call 29; (with_reducible refine HS.out.mono ?_); rintro x w' ⟨rfl, rfl⟩)
    go_ret2
    exact ⟨rfl, rfl⟩
  by_cases g3 : n < c
  · clear hb
    go_enter Try.func30, Try.ntmps30
    go_wp2_with (go_at_call 29; (with_reducible refine HS.out.mono ?_); rintro x w' ⟨rfl, rfl⟩)
    go_ret2
    exact ⟨rfl, rfl⟩
  by_cases g4 : n < s
  · clear hb
    go_enter Try.func30, Try.ntmps30
    go_wp2_with (go_at_call 29; (with_reducible refine HS.out.mono ?_); rintro x w' ⟨rfl, rfl⟩)
    go_ret2
    exact ⟨rfl, rfl⟩
  have hm1 : 0 ≤ c * s := Int.mul_nonneg (by omega) (by omega)
  have hm2 : c * s ≤ 8192 * 8192 := Int.mul_le_mul (by omega) (by omega) (by omega) (by omega)
  obtain ⟨m, hm⟩ : ∃ m, c * s = m := ⟨_, rfl⟩
  have g5 : n - m < f := Decidable.byContradiction fun hc => hb ⟨by omega, by omega, by omega, by omega, by omega, by omega⟩
  rw [hm] at hm1 hm2
  have hm3 : m ≤ 67108864 := hm2
  clear hb hm2
  go_enter Try.func30, Try.ntmps30
  go_wp2_with (go_at_call 29; (with_reducible refine HS.out.mono ?_); rintro x w' ⟨rfl, rfl⟩)
  go_ret2
  exact ⟨rfl, rfl⟩
set_option maxHeartbeats 1000000 in
theorem xnew_ok (h : St W0 (Disk p S :: L) W) {e : Ex} (he : e.Ok S.now.length) {f c s : Int} (hf : f = e.first) (hc : c = e.count) (hs : s = e.size) :
    Calls Try.prog 30 #[.pointer (some ⟨p, 0, none⟩), .int .i64 f, .int .i64 c, .int .i64 s] W fun r w' => ∃ x, r = .returned (.tuple #[.pointer (some ⟨x, 0, none⟩), .int .i64 0]) ∧ St W0 (Blk x (extV p e) 111 :: Disk p S :: L) w' := by
  obtain ⟨n, hn⟩ : ∃ n : Int, n = S.now.length := ⟨_, rfl⟩
  have HS := hid (size_st h)
  rw [← hn] at HS
  have h1 := he.c1
  have h2 := he.s1
  have h3 := he.c2
  have h4 := he.s2
  have h5 := he.fits
  have h6 := he.big
  have hm1 : c * s = (e.count * e.size : Nat) := by rw [hc, hs]; simp
  obtain ⟨m, hm⟩ : ∃ m, c * s = m := ⟨_, rfl⟩
  rw [hm] at hm1
  have g0 : ¬ c < 1 := by omega
  have g1 : ¬ s < 1 := by omega
  have g2 : ¬ f < 0 := by omega
  have g3 : ¬ n < c := by omega
  have g4 : ¬ n < s := by omega
  have g5 : ¬ n - m < f := by omega
  have g6 : n ≤ 8192 := by omega
  have g7 : 0 ≤ m := by omega
  have g8 : m ≤ 8192 := by omega
  have HH := hid h
  have HF := hid hf
  have HC := hid hc
  have HZ := hid hs
  clear h he hf hc hs h1 h2 h3 h4 h5 h6 hm1 hn
  go_enter Try.func30, Try.ntmps30
  go_wp2_with (go_at_call 29; (with_reducible refine HS.out.mono ?_); rintro x w' ⟨rfl, rfl⟩)
  go_ret2
  refine ⟨_, rfl, HH.out.newBlk ((Below.refl _ _).alloc (Nat.le_refl _) _) (Nat.le_refl _) ?_⟩
  rw [show extV p e = #[.pointer (some ⟨p, 0, none⟩), .int .i64 f, .int .i64 c, .int .i64 s] by unfold extV; rw [HF.out, HC.out, HZ.out]]
  exact heap_alloc_at _ _ rfl
end
end Go.Proofs.Ythmchbdhikakhaa
/- Zero of extents. -/
namespace Go.Proofs.Ythmchbdhikakhaa
open Go.RowKit Go.Cu
theorem zeros_stop {S : DS} {m p : Nat} (h : (S.zstep p).2 ≠ 0) : S.zeros (m + 1) p = S.zstep p := by
  rw [DS.zeros, if_pos h]
theorem zeros_go {S : DS} {m p : Nat} (h : (S.zstep p).2 = 0) : S.zeros (m + 1) p = (S.zstep p).1.zeros m (p + 1) := by
  rw [DS.zeros, if_neg (by rw [h]; decide)]
section
variable {W0 W : World} {L : List Atm} {p x : Nat} {S : DS} {N : Nat} {e : Ex}
theorem zero_out (h : St W0 (Disk p S :: Blk x (extV p e) 111 :: L) W) {n : Nat} (he : e.Ok n) {i : Int} (hi : i < 0 ∨ (e.count : Int) ≤ i) :
    Calls Try.prog 32 #[.pointer (some ⟨x, 0, none⟩), .int .i64 i] W fun r w' => r = .returned (.int .i64 1) ∧ W = w' := by
  have HA := hid (area_out h.at2.blk he hi)
  clear h he hi
  go_enter Try.func32, Try.ntmps32
  go_wp2_with (go_at_call 35; (with_reducible refine HA.out.mono ?_); rintro r w1 ⟨rfl, rfl⟩)
  go_ret
  exact ⟨rfl, rfl⟩
theorem zero_nil (i : Int) (w : World) : Calls Try.prog 32 #[.pointer none, .int .i64 i] w fun r w' => r = .returned (.int .i64 1) ∧ w = w' := by
  go_enter Try.func32, Try.ntmps32
  go_wp2_with (go_at_call 35; (with_reducible refine (area_nil _ _).mono ?_); rintro r w1 ⟨rfl, rfl⟩)
  go_ret
  exact ⟨rfl, rfl⟩
set_option maxRecDepth 20000 in
set_option maxHeartbeats 4000000 in
theorem zero_st (h : St W0 (Disk p S :: Blk x (extV p e) 111 :: L) W) (hok : S.Ok N) (he : e.Ok S.now.length) (hN : N + e.size ≤ 1000000) {i : Nat} (hi : i < e.count) :
    Calls Try.prog 32 #[.pointer (some ⟨x, 0, none⟩), .int .i64 i] W fun r w' => r = .returned (.int .i64 (S.zeros e.size (e.first + i * e.size)).2) ∧ St W0 (Disk p (S.zeros e.size (e.first + i * e.size)).1 :: Blk x (extV p e) 111 :: L) w' := by
  have HA := hid (area_in h.at2.blk he hi)
  have hin := he.within hi
  have hbig := he.big
  have HH := hid h
  have HOK := hid hok
  obtain ⟨pos, hpos⟩ : ∃ pos, pos = e.first + i * e.size := ⟨_, rfl⟩
  rw [← hpos] at HA hin ⊢
  obtain ⟨R, hR⟩ : ∃ R, R = S.zeros e.size pos := ⟨_, rfl⟩
  rw [← hR]
  have HR := hid hR
  have BZ := fun W => run_buildK (build33 W)
  have hcs := he.s2
  clear h hok he hi hpos hR
  go_enter Try.func32, Try.ntmps32
  go_wp2_with (go_at_call 35; (with_reducible refine HA.out.mono ?_); rintro r w1 ⟨rfl, hb1⟩; have H1 := hid (HH.out.turn hb1); clear hb1)
  clear HH
  go_loopw [22] (fun v X => ∃ k : Nat, k ≤ e.size ∧ v = .int .i64 k ∧ ∃ T : DS, Hid (T.zeros (e.size - k) (pos + k) = R) ∧ Hid (T.Ok (N + k)) ∧ Hid (T.now.length = S.now.length) ∧ Hid (St W0 (Disk p T :: Blk x (extV p e) 111 :: L) X)) (fun v _ => e.size - (intOf v).toNat)
  case atStart => exact ⟨0, by omega, rfl, S, hid HR.out.symm, HOK, hid rfl, H1⟩
  case round =>
    clear H1
    obtain ⟨k, hk, rfl, T, HZ, HTO, HTL, HS⟩ := hrel
    obtain ⟨x0, x1, x2, x3⟩ := ext_cells HS.out.at2.blk
    clear x1 x2 x3
    by_cases hlt : k < e.size
    · have e1 : (k : Int) < (e.size : Int) := by omega
      obtain ⟨m, hm⟩ : ∃ m, e.size - k = m + 1 := ⟨e.size - k - 1, by omega⟩
      rw [hm] at HZ
      have HM := hid (show e.size - (k + 1) = m by omega)
      obtain ⟨pk, hpk⟩ : ∃ pk : Nat, pk = pos + k := ⟨_, rfl⟩
      have hpl : pk < T.now.length := by rw [HTL.out]; omega
      have epk : (pos : Int) + (k : Int) = (pk : Int) := by omega
      rw [← hpk] at HZ
      have HPK := hid hpk
      have hpk2 : pk + 1 = pos + (k + 1) := by omega
      have HPK2 := hid hpk2
      clear hpk hm hpk2
      cases ho : T.off
      · have hat : T.at_ (pk : Int) = 0 := by rw [at_in hpl, ho]; rfl
        obtain ⟨V, hV⟩ : ∃ V, V = T.now.getD pk zeroB := ⟨_, rfl⟩
        have HVL := hid (show V.length = 128 by rw [hV]; exact full_getD HTO.out.now _)
        have HVZ := hid ((bv_size V).trans HVL.out)
        have HRD := hid (show ∀ X, St W0 (Disk p T :: Blk x (extV p e) 111 :: L) X → Calls Try.prog 18 #[.pointer (some ⟨p, 0, none⟩), .int .i64 pk] X fun x' X' => x' = .returned (.tuple #[.agg (bv V), .int .i64 0]) ∧ St W0 (Disk p T :: Blk x (extV p e) 111 :: L) X' from fun X h => (read_rd h HTO.out _).mono fun x' X' hx => ⟨by rw [hx.1, hat, hV]; unfold DS.rd; rw [if_pos hat, Int.toNat_natCast], hx.2⟩)
        have CM := fun (x y : Operand) (W : World) => run_cmpK_neq (P := Try.prog) guard33 Try.underlying33 be5 cells5 HVL.out zeroB_len x y W
        by_cases hz : V = zeroB
        · have HST := hid (show T.zstep pk = (T, 0) by unfold DS.zstep; rw [if_neg (by simpa using hat), if_pos (by rw [← hV]; exact hz)])
          simp only [hz, decide_true, Bool.not_true] at CM
          subst hz
          clear hV hat ho
          go_wp2_with (first | (go_at_call 18; (with_reducible refine (HRD.out _ HS.out).mono ?_); rintro x' w6 ⟨rfl, hs6⟩; have HS6 := hid hs6; clear hs6) | (refine wpList_alloc 33 rfl rfl (.agg (bv zeroB)) zero33 ?_; intro gA W7 hA hal hag hW7) | (refine wpList_store_box 33 _ _ rfl gA rfl rfl (bv zeroB) rfl 128 size33 HVZ.out (bv_one _) 33 _ hA bvz ?_; intro W8 hA8 hT8 hs8; have H5 := hid ((HS6.out.newBlk hW7 hag hA).put hA8 hT8).back3; have LA : (loadK 33 (.pointer (some ⟨gA, 0, none⟩))).run Try.prog W8 = .ok (.value (.agg (bv zeroB))) W8 := run_loadK_box hA8 Try.underlying33 rfl size33 HVZ.out; have y0 : W8.cell? ⟨x, 0, none⟩ = some (.pointer (some ⟨p, 0, none⟩)) := (ext_cells H5.out.at2.blk).1))
          go_roundw
          case rel => exact ⟨k + 1, by omega, by go_num, T, hid (by rw [HM.out, ← HPK2.out]; have := HZ.out; rw [zeros_go (by rw [HST.out]), HST.out] at this; exact this), hid (HTO.out.mono (by omega)), HTL, hid H5.out.drop3⟩
          case measure => simp [intOf]; omega
        · have HST := hid (show T.zstep pk = T.write (pk : Int) zeroB by unfold DS.zstep; rw [if_neg (by simpa using hat), if_neg (by rw [← hV]; exact hz)])
          simp only [hz, decide_false, Bool.not_false] at CM
          rcases (write_in ho hpl zeroB).2.2.2.1 with ⟨ha, _⟩ | ⟨ha, _⟩
          · have HA0 := hid ha
            clear hV hat ho hz ha
            go_wp2_with (first | (go_at_call 18; (with_reducible refine (HRD.out _ HS.out).mono ?_); rintro x' w6 ⟨rfl, hs6⟩; have HS6 := hid hs6; clear hs6) | (refine wpList_alloc 33 rfl rfl (.agg (bv zeroB)) zero33 ?_; intro gA W7 hA hal hag hW7) | (refine wpList_store_box 33 _ _ rfl gA rfl rfl (bv V) rfl 128 size33 HVZ.out (bv_one _) 33 _ hA bvz ?_; intro W8 hA8 hT8 hs8; have H5 := hid ((HS6.out.newBlk hW7 hag hA).put hA8 hT8).back3; have LA : (loadK 33 (.pointer (some ⟨gA, 0, none⟩))).run Try.prog W8 = .ok (.value (.agg (bv V))) W8 := run_loadK_box hA8 Try.underlying33 rfl size33 HVZ.out; have y0 : W8.cell? ⟨x, 0, none⟩ = some (.pointer (some ⟨p, 0, none⟩)) := (ext_cells H5.out.at2.blk).1) | (go_at_call 15; (with_reducible refine (write_st H5.out HTO.out (by omega) _ zeroB_len).mono ?_); rintro x' w9 ⟨hx, hs9⟩; rw [HA0.out] at hx; subst hx; have H6 := hid hs9; clear hs9))
            go_roundw
            case rel => exact ⟨k + 1, by omega, by go_num, (T.write (pk : Int) zeroB).1, hid (by rw [HM.out, ← HPK2.out]; have := HZ.out; rw [zeros_go (by rw [HST.out]; exact HA0.out), HST.out] at this; exact this), hid (HTO.out.write _ zeroB_len), hid ((write_len' T _ _).trans HTL.out), hid H6.out.drop3⟩
            case measure => simp [intOf]; omega
          · have HA0 := hid ha
            clear hV hat ho hz ha
            go_wp2_with (first | (go_at_call 18; (with_reducible refine (HRD.out _ HS.out).mono ?_); rintro x' w6 ⟨rfl, hs6⟩; have HS6 := hid hs6; clear hs6) | (refine wpList_alloc 33 rfl rfl (.agg (bv zeroB)) zero33 ?_; intro gA W7 hA hal hag hW7) | (refine wpList_store_box 33 _ _ rfl gA rfl rfl (bv V) rfl 128 size33 HVZ.out (bv_one _) 33 _ hA bvz ?_; intro W8 hA8 hT8 hs8; have H5 := hid ((HS6.out.newBlk hW7 hag hA).put hA8 hT8).back3; have LA : (loadK 33 (.pointer (some ⟨gA, 0, none⟩))).run Try.prog W8 = .ok (.value (.agg (bv V))) W8 := run_loadK_box hA8 Try.underlying33 rfl size33 HVZ.out; have y0 : W8.cell? ⟨x, 0, none⟩ = some (.pointer (some ⟨p, 0, none⟩)) := (ext_cells H5.out.at2.blk).1) | (go_at_call 15; (with_reducible refine (write_st H5.out HTO.out (by omega) _ zeroB_len).mono ?_); rintro x' w9 ⟨hx, hs9⟩; rw [HA0.out] at hx; subst hx; have H6 := hid hs9; clear hs9))
            go_ret
            have hz := HZ.out
            rw [zeros_stop (by rw [HST.out, HA0.out]; decide), HST.out] at hz
            rw [← hz, HA0.out]
            exact ⟨rfl, H6.out.drop3⟩
      · have hat : T.at_ (pk : Int) = 13 := by rw [at_in hpl, ho]; rfl
        have HST := hid (show T.zstep pk = (T, 13) by unfold DS.zstep; rw [if_pos (by rw [hat]; decide), hat])
        obtain ⟨V, hV⟩ : ∃ V, V = zeroB := ⟨_, rfl⟩
        have HVL := hid (show V.length = 128 by rw [hV]; exact zeroB_len)
        have HVZ := hid ((bv_size V).trans HVL.out)
        have HRD := hid (show ∀ X, St W0 (Disk p T :: Blk x (extV p e) 111 :: L) X → Calls Try.prog 18 #[.pointer (some ⟨p, 0, none⟩), .int .i64 pk] X fun x' X' => x' = .returned (.tuple #[.agg (bv V), .int .i64 13]) ∧ St W0 (Disk p T :: Blk x (extV p e) 111 :: L) X' from fun X h => (read_rd h HTO.out _).mono fun x' X' hx => ⟨by rw [hx.1, hat, hV]; unfold DS.rd; rw [if_neg (by rw [hat]; decide)], hx.2⟩)
        clear hV hat ho
        go_wp2_with (first | (go_at_call 18; (with_reducible refine (HRD.out _ HS.out).mono ?_); rintro x' w6 ⟨rfl, hs6⟩; have HS6 := hid hs6; clear hs6) | (refine wpList_alloc 33 rfl rfl (.agg (bv zeroB)) zero33 ?_; intro gA W7 hA hal hag hW7) | (refine wpList_store_box 33 _ _ rfl gA rfl rfl (bv V) rfl 128 size33 HVZ.out (bv_one _) 33 _ hA bvz ?_; intro W8 hA8 hT8 hs8; have H5 := hid ((HS6.out.newBlk hW7 hag hA).put hA8 hT8).back3; have LA : (loadK 33 (.pointer (some ⟨gA, 0, none⟩))).run Try.prog W8 = .ok (.value (.agg (bv V))) W8 := run_loadK_box hA8 Try.underlying33 rfl size33 HVZ.out; have y0 : W8.cell? ⟨x, 0, none⟩ = some (.pointer (some ⟨p, 0, none⟩)) := (ext_cells H5.out.at2.blk).1))
        go_ret
        have hz := HZ.out
        rw [zeros_stop (by rw [HST.out]; simp), HST.out] at hz
        rw [← hz]
        exact ⟨rfl, H5.out.drop3⟩
    · have e1 : ¬ (k : Int) < (e.size : Int) := by omega
      have e2 : k = e.size := by omega
      have HE := hid (show T.sync = R by have := HZ.out; rw [e2, Nat.sub_self] at this; exact this)
      clear e2
      go_wp2_with (go_at_call 16; (with_reducible refine (sync_st HS.out HTO.out (by omega)).mono ?_); rintro x' w5 ⟨rfl, hs5⟩; have HS5 := hid hs5; clear hs5)
      go_ret
      have h5 := HS5.out
      rw [HE.out] at h5 ⊢
      exact ⟨rfl, h5⟩
end
end Go.Proofs.Ythmchbdhikakhaa
/- Clear and Foul of extents; the story of them. -/
namespace Go.Proofs.Ythmchbdhikakhaa
open Go.RowKit Go.Cu
theorem clear_nil (i : Int) (w : World) : Calls Try.prog 33 #[.pointer none, .int .i64 i] w fun r w' => r = .returned (.tuple #[.bool false, .int .i64 1]) ∧ w = w' := by
  go_enter Try.func33, Try.ntmps33
  go_wp2_with (go_at_call 35; (with_reducible refine (area_nil _ _).mono ?_); rintro r w1 ⟨rfl, rfl⟩)
  go_ret2
  exact ⟨rfl, rfl⟩
theorem foul_nil (w : World) : Calls Try.prog 36 #[.pointer none] w fun r w' => r = .returned (.tuple #[.slice none 0 0, .int .i64 1]) ∧ w = w' := by
  go_enter Try.func36, Try.ntmps36
  go_wp2
  go_ret2
  exact ⟨rfl, rfl⟩
section
variable {W0 W : World} {L : List Atm} {p x : Nat} {S : DS} {N : Nat} {e : Ex}
set_option maxRecDepth 20000 in
set_option maxHeartbeats 4000000 in
theorem clear_st (h : St W0 (Disk p S :: Blk x (extV p e) 111 :: L) W) (hok : S.Ok N) (he : e.Ok S.now.length) (ho : S.off = false) {i : Nat} (hi : i < e.count) :
    Calls Try.prog 33 #[.pointer (some ⟨x, 0, none⟩), .int .i64 i] W fun r w' => r = .returned (.tuple #[.bool (S.clear (e.first + i * e.size) e.size), .int .i64 0]) ∧ St W0 (Disk p S :: Blk x (extV p e) 111 :: L) w' := by
  have HA := hid (area_in h.at2.blk he hi)
  have hin := he.within hi
  have hbig := he.big
  have HH := hid h
  have HOK := hid hok
  obtain ⟨pos, hpos⟩ : ∃ pos, pos = e.first + i * e.size := ⟨_, rfl⟩
  rw [← hpos] at HA hin ⊢
  obtain ⟨R, hR⟩ : ∃ R, R = S.clear pos e.size := ⟨_, rfl⟩
  rw [← hR]
  have HR := hid hR
  have BZ := fun W => run_buildK (build33 W)
  have hcs := he.s2
  have HO := hid ho
  clear h hok he hi hpos hR ho
  go_enter Try.func33, Try.ntmps33
  go_wp2_with (go_at_call 35; (with_reducible refine HA.out.mono ?_); rintro r w1 ⟨rfl, hb1⟩; have H1 := hid (HH.out.turn hb1); clear hb1)
  clear HH
  go_loopw [23] (fun v X => ∃ k : Nat, k ≤ e.size ∧ v = .int .i64 k ∧ Hid (∀ j, j < k → S.now.getD (pos + j) zeroB = zeroB) ∧ Hid (St W0 (Disk p S :: Blk x (extV p e) 111 :: L) X)) (fun v _ => e.size - (intOf v).toNat)
  case atStart => exact ⟨0, by omega, rfl, hid (fun j hj => absurd hj (by omega)), H1⟩
  case round =>
    clear H1
    obtain ⟨k, hk, rfl, HZ, HS⟩ := hrel
    obtain ⟨x0, x1, x2, x3⟩ := ext_cells HS.out.at2.blk
    clear x1 x2 x3
    by_cases hlt : k < e.size
    · have e1 : (k : Int) < (e.size : Int) := by omega
      obtain ⟨pk, hpk⟩ : ∃ pk : Nat, pk = pos + k := ⟨_, rfl⟩
      have hpl : pk < S.now.length := by omega
      have epk : (pos : Int) + (k : Int) = (pk : Int) := by omega
      have HPK := hid hpk
      have hat : S.at_ (pk : Int) = 0 := by rw [at_in hpl, HO.out]; rfl
      obtain ⟨V, hV⟩ : ∃ V, V = S.now.getD pk zeroB := ⟨_, rfl⟩
      have HVL := hid (show V.length = 128 by rw [hV]; exact full_getD HOK.out.now _)
      have HVZ := hid ((bv_size V).trans HVL.out)
      have HRD := hid (show ∀ X, St W0 (Disk p S :: Blk x (extV p e) 111 :: L) X → Calls Try.prog 18 #[.pointer (some ⟨p, 0, none⟩), .int .i64 pk] X fun x' X' => x' = .returned (.tuple #[.agg (bv V), .int .i64 0]) ∧ St W0 (Disk p S :: Blk x (extV p e) 111 :: L) X' from fun X h => (read_rd h HOK.out _).mono fun x' X' hx => ⟨by rw [hx.1, hat, hV]; unfold DS.rd; rw [if_pos hat, Int.toNat_natCast], hx.2⟩)
      have CM := fun (x y : Operand) (W : World) => run_cmpK_neq (P := Try.prog) guard33 Try.underlying33 be5 cells5 HVL.out zeroB_len x y W
      have HVV := hid (show V = S.now.getD (pos + k) zeroB by rw [hV, hpk])
      clear hpk
      by_cases hz : V = zeroB
      · simp only [hz, decide_true, Bool.not_true] at CM
        have HK := hid (show ∀ j, j < k + 1 → S.now.getD (pos + j) zeroB = zeroB from fun j hj => by
          by_cases h1 : j < k
          · exact HZ.out j h1
          · have : j = k := by omega
            rw [this, ← HVV.out]; exact hz)
        subst hz
        clear hV hat HVV
        go_wp2_with (first | (go_at_call 18; (with_reducible refine (HRD.out _ HS.out).mono ?_); rintro x' w6 ⟨rfl, hs6⟩; have HS6 := hid hs6; clear hs6) | (refine wpList_alloc 33 rfl rfl (.agg (bv zeroB)) zero33 ?_; intro gA W7 hA hal hag hW7) | (refine wpList_store_box 33 _ _ rfl gA rfl rfl (bv zeroB) rfl 128 size33 HVZ.out (bv_one _) 33 _ hA bvz ?_; intro W8 hA8 hT8 hs8; have H5 := hid ((HS6.out.newBlk hW7 hag hA).put hA8 hT8).back3; have LA : (loadK 33 (.pointer (some ⟨gA, 0, none⟩))).run Try.prog W8 = .ok (.value (.agg (bv zeroB))) W8 := run_loadK_box hA8 Try.underlying33 rfl size33 HVZ.out))
        go_roundw
        case rel => exact ⟨k + 1, by omega, by go_num, HK, hid H5.out.drop3⟩
        case measure => simp [intOf]; omega
      · simp only [hz, decide_false, Bool.not_false] at CM
        have HF := hid (show R = false by
          rw [HR.out]
          cases hc : S.clear pos e.size with
          | false => rfl
          | true => exact absurd (HVV.out.trans (clear_iff.1 hc k hlt)) hz)
        clear hV hat HVV hz
        go_wp2_with (first | (go_at_call 18; (with_reducible refine (HRD.out _ HS.out).mono ?_); rintro x' w6 ⟨rfl, hs6⟩; have HS6 := hid hs6; clear hs6) | (refine wpList_alloc 33 rfl rfl (.agg (bv zeroB)) zero33 ?_; intro gA W7 hA hal hag hW7) | (refine wpList_store_box 33 _ _ rfl gA rfl rfl (bv V) rfl 128 size33 HVZ.out (bv_one _) 33 _ hA bvz ?_; intro W8 hA8 hT8 hs8; have H5 := hid ((HS6.out.newBlk hW7 hag hA).put hA8 hT8).back3; have LA : (loadK 33 (.pointer (some ⟨gA, 0, none⟩))).run Try.prog W8 = .ok (.value (.agg (bv V))) W8 := run_loadK_box hA8 Try.underlying33 rfl size33 HVZ.out))
        go_ret2
        rw [HF.out]
        exact ⟨rfl, H5.out.drop3⟩
    · have e1 : ¬ (k : Int) < (e.size : Int) := by omega
      have HT := hid (show R = true by
        rw [HR.out, clear_iff]
        exact fun j hj => HZ.out j (by omega))
      go_wp2
      go_ret2
      rw [HT.out]
      exact ⟨rfl, HS.out⟩
end
end Go.Proofs.Ythmchbdhikakhaa
/- Foul of extents; the story of them. -/
namespace Go.Proofs.Ythmchbdhikakhaa
open Go.RowKit Go.Cu
theorem info3 : (Try.prog.info? 3).map (fun i => (i.zero, i.size, i.bytes)) = some (some (.int .i64 0), 1, 8) := by kernel_rfl
theorem zero3 (W : World) : (zeroValue 3).run Try.prog W = .ok (.int .i64 0) W := by kernel_rfl
/-- Numbers as cells. -/
def numV (l : List Nat) : List Value := l.map fun (i : Nat) => Value.int .i64 (i : Int)
def _root_.Go.Cu.DS.foul (S : DS) (e : Ex) (k : Nat) : List Nat := (List.range k).filter fun i => !S.clear (e.first + i * e.size) e.size
theorem foul_step (S : DS) (e : Ex) (k : Nat) : S.foul e (k + 1) = if S.clear (e.first + k * e.size) e.size = true then S.foul e k else S.foul e k ++ [k] := by
  unfold DS.foul
  rw [List.range_succ, List.filter_append]
  cases h : S.clear (e.first + k * e.size) e.size <;> simp [h]
theorem foul_le (S : DS) (e : Ex) (k : Nat) : (S.foul e k).length ≤ k := by
  unfold DS.foul
  exact Nat.le_trans (List.length_filter_le _ _) (by simp)
section
variable {W0 W : World} {L : List Atm} {p x : Nat} {S : DS} {N : Nat} {e : Ex}
set_option maxRecDepth 20000 in
set_option maxHeartbeats 4000000 in
theorem foul_st (h : St W0 (Disk p S :: Blk x (extV p e) 111 :: L) W) (hok : S.Ok N) (he : e.Ok S.now.length) (ho : S.off = false) :
    Calls Try.prog 36 #[.pointer (some ⟨x, 0, none⟩)] W fun r w' => ∃ v, r = .returned (.tuple #[v, .int .i64 0]) ∧ St W0 (Row v 3 1 (S.foul e e.count).length (numV (S.foul e e.count)) :: Disk p S :: Blk x (extV p e) 111 :: L) w' := by
  have HH := hid (h.nilRow 3 1)
  have HC := hid (fun (k : Nat) (hk : k < e.count) (X : World) (L' : List Atm) (h : St W0 (Disk p S :: Blk x (extV p e) 111 :: L') X) => clear_st h hok he ho hk)
  have hbig := he.big
  have hcn := he.c2
  obtain ⟨x0, x1, x2, x3⟩ := ext_cells h.at2.blk
  clear h hok he ho x0 x1 x3
  go_enter Try.func36, Try.ntmps36
  go_wp2_with fail
  clear x2
  go_loopw [4, 14] (fun v i X => ∃ k : Nat, k ≤ e.count ∧ i = .int .i64 k ∧ Hid (St W0 (Row v 3 1 (S.foul e k).length (numV (S.foul e k)) :: Disk p S :: Blk x (extV p e) 111 :: L) X)) (fun _ i _ => e.count - (intOf i).toNat)
  case atStart => exact ⟨0, by omega, rfl, HH⟩
  case round =>
    clear HH
    obtain ⟨k, hk, rfl, HS⟩ := hrel
    obtain ⟨A, c, rfl, _⟩ := row_slice HS.out
    by_cases hlt : k < e.count
    · have e1 : (k : Int) < (e.count : Int) := by omega
      have HST := hid (foul_step S e k)
      have hfl := foul_le S e k
      cases hc : S.clear (e.first + k * e.size) e.size
      · have HST := hid (HST.out.trans (if_neg (by rw [hc]; decide)))
        have HC1 := hid (show ∀ X, St W0 (Row (.slice A (S.foul e k).length c) 3 1 (S.foul e k).length (numV (S.foul e k)) :: Disk p S :: Blk x (extV p e) 111 :: L) X → Calls Try.prog 33 #[.pointer (some ⟨x, 0, none⟩), .int .i64 k] X fun r w' => r = .returned (.tuple #[.bool false, .int .i64 0]) ∧ St W0 (Row (.slice A (S.foul e k).length c) 3 1 (S.foul e k).length (numV (S.foul e k)) :: Disk p S :: Blk x (extV p e) 111 :: L) w' from fun X h =>
          (HC.out k hlt X _ h.back3).mono fun r w' hx => ⟨by rw [hx.1, hc], hx.2.at3⟩)
        clear hc
        obtain ⟨i0, hi, hiz, his, hib⟩ := info_parts info3
        have HI := hid (And.intro hi (And.intro hiz (And.intro his hib)))
        clear hi hiz his hib
        go_wp2_with (first | (go_at_call 33; (with_reducible refine (HC1.out _ HS.out).mono ?_); rintro r w1 ⟨rfl, hs1⟩; have HS1 := hid hs1; clear hs1) | (refine wpList_buildSlice1 _ rfl (.int .i64 k) (by simp [Act.eval]) rfl Try.underlying67 zero3 size3 (by decide) (by decide) rfl ?_; intro gs X1 hS hgs hges hX1b; have HS2 := hid (HS1.out.turn hX1b); have HNW := hid (news_box hS [.int .i64 k] rfl); clear hS hgs hges hX1b) | (refine wpList_append_at _ _ _ rfl (.slice A (S.foul e k).length c) rfl ⟨gs, 0, none⟩ 1 1 rfl rfl 3 i0 (.int .i64 0) 1 8 Try.underlying67 HI.out.1 HI.out.2.1 HI.out.2.2.1 HI.out.2.2.2 rfl (by decide) (S.foul e k).length (numV (S.foul e k)) HS2.out.row [.int .i64 k] rfl HNW.out (by simp [Value.oneCell']) (by unfold maxLen; omega) (by omega) ?_; intro v' V2 hO2 hT2 hfr; have HS3 := hid (HS2.out.grow hO2 hT2 hfr); clear hO2 hT2 hfr))
        go_roundw
        case rel =>
          refine ⟨k + 1, by omega, by go_num, hid ?_⟩
          rw [HST.out, List.length_append]
          have := HS3.out
          unfold numV at *
          rw [List.map_append]
          exact this
        case measure => simp [intOf]; omega
      · have HST := hid (HST.out.trans (if_pos hc))
        have HC1 := hid (show ∀ X, St W0 (Row (.slice A (S.foul e k).length c) 3 1 (S.foul e k).length (numV (S.foul e k)) :: Disk p S :: Blk x (extV p e) 111 :: L) X → Calls Try.prog 33 #[.pointer (some ⟨x, 0, none⟩), .int .i64 k] X fun r w' => r = .returned (.tuple #[.bool true, .int .i64 0]) ∧ St W0 (Row (.slice A (S.foul e k).length c) 3 1 (S.foul e k).length (numV (S.foul e k)) :: Disk p S :: Blk x (extV p e) 111 :: L) w' from fun X h =>
          (HC.out k hlt X _ h.back3).mono fun r w' hx => ⟨by rw [hx.1, hc], hx.2.at3⟩)
        clear hc
        go_wp2_with (go_at_call 33; (with_reducible refine (HC1.out _ HS.out).mono ?_); rintro r w1 ⟨rfl, hs1⟩; have HS1 := hid hs1; clear hs1)
        go_roundw
        case rel => exact ⟨k + 1, by omega, by go_num, hid (by rw [HST.out]; exact HS1.out)⟩
        case measure => simp [intOf]; omega
    · have e1 : ¬ (k : Int) < (e.count : Int) := by omega
      have e2 : k = e.count := by omega
      subst e2
      go_wp2
      go_ret2
      exact ⟨_, rfl, HS.out⟩
set_option maxRecDepth 20000 in
set_option maxHeartbeats 1000000 in
theorem extents_st (h : St W0 L W) : Calls Try.prog 31 #[] W fun r w' => r = .returned (.bool true) ∧ St W0 L w' := by
  have he : (⟨10, 3, 4⟩ : Ex).Ok (DS.new 30).now.length := ⟨by decide, by decide, by decide, by decide, by decide, by decide⟩
  have HE := hid he
  have HH := hid h
  have hok : (DS.new 30).Ok 0 := DS.Ok.new (by decide)
  have HOK := hid hok
  have HXN := hid (fun (X : World) (p : Nat) (hX : St W0 (Disk p (DS.new 30) :: L) X) => xnew_ok (f := 10) (c := 3) (s := 4) hX he rfl rfl rfl)
  clear h he hok
  go_enter Try.func31, Try.ntmps31
  go_wp2_with (first | (go_at_call 13; (with_reducible refine (new_sti HH.out (m := 30) (n := 30) rfl (by decide) (by decide)).mono ?_); rintro x w1 ⟨p, rfl, hs1⟩; have H1 := hid hs1; clear hs1) | (go_at_call 30; (with_reducible refine (HXN.out _ _ H1.out).mono ?_); rintro r w2 ⟨x, rfl, hs2⟩; have H2 := hid hs2; clear hs2))
  have HAR := hid (show Calls Try.prog 35 #[.pointer (some ⟨x, 0, none⟩), .int .i64 1] w2 fun r w' => r = .returned (.tuple #[.int .i64 14, .int .i64 4, .int .i64 0]) ∧ Below w2.heap.size w2 w' from area_in (i := 1) H2.out.blk HE.out (by decide))
  with_reducible refine HAR.out.mono ?_
  clear HAR
  rintro r w3 ⟨rfl, hb3⟩
  have H3 := hid (H2.out.turn hb3)
  clear hb3
  go_wp2_with fail
  with_reducible refine (of_any H3.out.blk HE.out 17).mono ?_
  rintro r w4 ⟨hx, hb4⟩
  replace hx : r = .returned (.int .i64 1) := hx
  subst hx
  have H4 := hid (H3.out.turn hb4)
  clear hb4
  go_wp2_with fail
  with_reducible refine (of_any H4.out.blk HE.out 9).mono ?_
  rintro r w5 ⟨hx, hb5⟩
  replace hx : r = .returned (.int .i64 (-1)) := hx
  subst hx
  have H5 := hid (H4.out.turn hb5)
  clear hb5
  go_wp2_with fail
  go_ret
  exact ⟨rfl, H5.out.drop.drop⟩
end
end Go.Proofs.Ythmchbdhikakhaa
/- ExtentAreas: the walk. -/
namespace Go.Proofs.Ythmchbdhikakhaa
open Go.RowKit Go.Cu
theorem of_at {e : Ex} {n : Nat} (_he : e.Ok n) {i k : Nat} (hi : i < e.count) (hk : k < e.size) {b : Int} (hb : (e.first + i * e.size + k : Nat) = b) : e.of b = i := by
  have h1 : (i + 1) * e.size ≤ e.count * e.size := Nat.mul_le_mul_right _ hi
  rw [Nat.succ_mul] at h1
  unfold Ex.of
  rw [if_neg (by omega)]
  have h2 : b - (e.first : Int) = ((i * e.size + k : Nat) : Int) := by omega
  rw [h2, ← Int.natCast_ediv]
  congr 1
  rw [Nat.mul_comm, Nat.mul_add_div (by omega), Nat.div_eq_of_lt hk, Nat.add_zero]
theorem of_none {e : Ex} {n : Nat} (he : e.Ok n) {b : Int} (h : ∀ i, i < e.count → ∀ k, k < e.size → ((e.first + i * e.size + k : Nat) : Int) ≠ b) : e.of b = -1 := by
  unfold Ex.of
  by_cases hin : b < e.first ∨ (e.first : Int) + (e.count * e.size : Nat) ≤ b
  · rw [if_pos hin]
  · exfalso
    have hs := he.s1
    obtain ⟨d, hd⟩ : ∃ d : Nat, (d : Int) = b - e.first := ⟨(b - e.first).toNat, by omega⟩
    have hlt : d < e.count * e.size := by omega
    refine h (d / e.size) ((Nat.div_lt_iff_lt_mul (by omega)).2 hlt) (d % e.size) (Nat.mod_lt _ (by omega)) ?_
    have := Nat.div_add_mod d e.size
    rw [Nat.mul_comm] at this
    omega
set_option maxHeartbeats 2000000 in
theorem rof_any {e : Ex} {n : Nat} (he : e.Ok n) (b : Int) (w : World) : Calls Try.prog 40 #[.int .i64 e.first, .int .i64 e.count, .int .i64 e.size, .int .i64 b] w fun r w' => r = .returned (.int .i64 (e.of b)) ∧ w = w' := by
  have HE := hid he
  have h1 := he.c2
  have h2 := he.s2
  have h3 := he.big
  obtain ⟨R, hR⟩ : ∃ R, R = e.of b := ⟨_, rfl⟩
  rw [← hR]
  have HR := hid hR
  clear he hR
  go_enter Try.func40, Try.ntmps40
  go_wp2_with fail
  go_loop [9] (fun v => ∃ i : Nat, i ≤ e.count ∧ v = .int .i64 i ∧ Hid (∀ i', i' < i → ∀ k, k < e.size → ((e.first + i' * e.size + k : Nat) : Int) ≠ b)) (fun v => e.count - (intOf v).toNat)
  case atStart => exact ⟨0, by omega, rfl, hid (fun i' hi => absurd hi (by omega))⟩
  case round =>
    obtain ⟨i, hi, rfl, HI⟩ := hrel
    by_cases hlt : i < e.count
    · have e1 : (i : Int) < (e.count : Int) := by omega
      have hin := HE.out.within hlt
      obtain ⟨m, hm⟩ : ∃ m : Nat, m = i * e.size := ⟨_, rfl⟩
      have em : (i : Int) * (e.size : Int) = (m : Int) := by rw [hm]; simp
      have HM := hid hm
      rw [← hm] at hin
      clear hm
      go_wp2_with fail
      go_loop [10] (fun v => ∃ k : Nat, k ≤ e.size ∧ v = .int .i64 k ∧ Hid (∀ k', k' < k → ((e.first + i * e.size + k' : Nat) : Int) ≠ b)) (fun v => e.size - (intOf v).toNat)
      case atStart => exact ⟨0, by omega, rfl, hid (fun i' hi => absurd hi (by omega))⟩
      case round =>
        obtain ⟨k, hk, rfl, HKK⟩ := hrel
        by_cases hlk : k < e.size
        · have e2 : (k : Int) < (e.size : Int) := by omega
          by_cases hb : ((e.first + m + k : Nat) : Int) = b
          · have HRR := hid (show R = i by rw [HR.out]; exact of_at HE.out hlt hlk (by rw [← HM.out]; exact hb))
            have e3 : ((e.first : Int) + (m : Int) + (k : Int) == b) = true := by rw [beq_iff_eq]; omega
            clear hb
            go_wp2_with fail
            go_ret
            rw [HRR.out]
            exact ⟨rfl, rfl⟩
          · have e3 : ((e.first : Int) + (m : Int) + (k : Int) == b) = false := by rw [beq_eq_false_iff_ne]; omega
            have HKN := hid (show ∀ k', k' < k + 1 → ((e.first + i * e.size + k' : Nat) : Int) ≠ b from fun k' hk' => by
              by_cases h : k' < k
              · exact HKK.out k' h
              · have : k' = k := by omega
                rw [this, ← HM.out]; exact hb)
            clear hb
            go_wp2_with fail
            go_round
            case rel => exact ⟨k + 1, by omega, by go_num, HKN⟩
            case measure => simp [intOf]; omega
        · have e2 : ¬ (k : Int) < (e.size : Int) := by omega
          have HIN := hid (show ∀ i', i' < i + 1 → ∀ k, k < e.size → ((e.first + i' * e.size + k : Nat) : Int) ≠ b from fun i' hi' k' hk' => by
            by_cases h : i' < i
            · exact HI.out i' h k' hk'
            · have : i' = i := by omega
              subst this; exact HKK.out k' (by omega))
          go_wp2_with fail
          go_round
          case rel => exact ⟨i + 1, by omega, by go_num, HIN⟩
          case measure => simp [intOf]; omega
    · have e1 : ¬ (i : Int) < (e.count : Int) := by omega
      have HRR := hid (show R = -1 by rw [HR.out]; exact of_none HE.out (fun i' hi' => HI.out i' (by omega)))
      go_wp2_with fail
      go_ret
      rw [HRR.out]
      exact ⟨rfl, rfl⟩
set_option maxHeartbeats 1000000 in
theorem rfine_bad {f c s n : Int} (hn0 : 0 ≤ n) (hn1 : n ≤ 8192) (hb : ¬ fine n f c s) (w : World) :
    Calls Try.prog 39 #[.int .i64 n, .int .i64 f, .int .i64 c, .int .i64 s] w fun r w' => r = .returned (.bool false) ∧ w = w' := by
  unfold fine at hb
  by_cases g0 : c < 1
  · clear hb
    go_enter Try.func39, Try.ntmps39
    go_wp2
    go_ret
    exact ⟨rfl, rfl⟩
  by_cases g1 : s < 1
  · clear hb
    go_enter Try.func39, Try.ntmps39
    go_wp2
    go_ret
    exact ⟨rfl, rfl⟩
  by_cases g2 : f < 0
  · clear hb
    go_enter Try.func39, Try.ntmps39
    go_wp2
    go_ret
    exact ⟨rfl, rfl⟩
  by_cases g3 : n < c
  · clear hb
    go_enter Try.func39, Try.ntmps39
    go_wp2
    go_ret
    exact ⟨rfl, rfl⟩
  by_cases g4 : n < s
  · clear hb
    go_enter Try.func39, Try.ntmps39
    go_wp2
    go_ret
    exact ⟨rfl, rfl⟩
  have hm1 : 0 ≤ c * s := Int.mul_nonneg (by omega) (by omega)
  have hm2 : c * s ≤ 8192 * 8192 := Int.mul_le_mul (by omega) (by omega) (by omega) (by omega)
  obtain ⟨m, hm⟩ : ∃ m, c * s = m := ⟨_, rfl⟩
  have g5 : ¬ f ≤ n - m := fun hc => hb ⟨by omega, by omega, by omega, by omega, by omega, by omega⟩
  rw [hm] at hm1 hm2
  have hm3 : m ≤ 67108864 := hm2
  clear hb hm2
  go_enter Try.func39, Try.ntmps39
  go_wp2
  go_ret
  exact ⟨rfl, rfl⟩
set_option maxHeartbeats 1000000 in
theorem rfine_ok {f c s n : Int} (hn0 : 0 ≤ n) (hn1 : n ≤ 8192) (hb : fine n f c s) (w : World) :
    Calls Try.prog 39 #[.int .i64 n, .int .i64 f, .int .i64 c, .int .i64 s] w fun r w' => r = .returned (.bool true) ∧ w = w' := by
  obtain ⟨g0, g1, g2, g3, g4, g5⟩ := hb
  have hm1 : 0 ≤ c * s := Int.mul_nonneg (by omega) (by omega)
  have hm2 : c * s ≤ 8192 * 8192 := Int.mul_le_mul (by omega) (by omega) (by omega) (by omega)
  obtain ⟨m, hm⟩ : ∃ m, c * s = m := ⟨_, rfl⟩
  rw [hm] at hm1 hm2 g5
  have hm3 : m ≤ 67108864 := hm2
  have k0 : ¬ c < 1 := by omega
  have k1 : ¬ s < 1 := by omega
  have k2 : ¬ f < 0 := by omega
  have k3 : ¬ n < c := by omega
  have k4 : ¬ n < s := by omega
  clear hm2
  go_enter Try.func39, Try.ntmps39
  go_wp2
  go_ret
  exact ⟨rfl, rfl⟩
end Go.Proofs.Ythmchbdhikakhaa
/- A disk whose blocks are known one by one. No program. -/
namespace Go.Cu
structure Flatd (g : List Blk8) (N : Nat) (S : DS) : Prop where
  ok : S.Ok N
  td : S.Tied
  off : S.off = false
  arm : S.armed = 0
  now : S.now = g
theorem Flatd.new {n : Nat} (hn : n ≤ 8192) : Flatd (List.replicate n zeroB) 0 (DS.new n) := ⟨DS.Ok.new hn, DS.Tied.new n, rfl, rfl, rfl⟩
theorem Flatd.write {g : List Blk8} {N : Nat} {S : DS} (h : Flatd g N S) {i : Nat} (hi : i < g.length) {b : Blk8} (hb : b.length = 128) : Flatd (g.set i b) (N + 1) (S.write (i : Int) b).1 ∧ (S.write (i : Int) b).2 = 0 := by
  have hl : i < S.now.length := by rw [h.now]; exact hi
  obtain ⟨w1, _, _, _, w5⟩ := write_in h.off hl b
  obtain ⟨a1, a2⟩ := w5 h.arm
  refine ⟨⟨h.ok.write _ hb, h.td.write _ _, ?_, a2, by rw [w1, h.now]⟩, a1⟩
  rcases (write_in h.off hl b).2.2.2.1 with ⟨_, h2⟩ | ⟨h2, _⟩
  · exact h2
  · rw [a1] at h2; cases h2
theorem Flatd.sync {g : List Blk8} {N : Nat} {S : DS} (h : Flatd g N S) : Flatd g N S.sync.1 ∧ S.sync.2 = 0 ∧ S.sync.1.wait = [] ∧ S.sync.1.last = g := by
  have e : S.sync = (S.settle fun _ => true, 0) := by simp [DS.sync, h.off]
  have e2 : (S.settle fun _ => true).last = S.now := h.td.now.symm
  have e1 : (S.settle fun _ => true).now = S.now := (settle_now h.td h.ok.len _).trans e2
  rw [e]
  exact ⟨⟨h.ok.settle _, h.td.settle h.ok.len _, h.off, h.arm, e1.trans h.now⟩, rfl, rfl, e2.trans h.now⟩
theorem Flatd.cut {g : List Blk8} {N : Nat} {S : DS} (h : Flatd g N S) (hw : S.wait = []) (hl : S.last = g) (p n : Nat) : Cut g p n S :=
  ⟨by rw [h.now], fun i _ => .inl (by rw [h.now]), fun i _ => .inl (by rw [hl]), fun q hq => by rw [hw] at hq; cases hq⟩
theorem crash_off (S : DS) (keep : List Bool) : (S.crash keep).off = false := rfl
theorem crash_arm (S : DS) (keep : List Bool) : (S.crash keep).armed = 0 := rfl
theorem crash_nowait {S : DS} (h : S.wait = []) (keep : List Bool) : (S.crash keep).now = S.now := by
  show nowOf _ S.wait S.now = S.now
  rw [h]
  rfl
theorem crash_len' (S : DS) (keep : List Bool) : (S.crash keep).now.length = S.now.length := nowOf_len _ _ _
/-- All that a zeroing cut off by the power, a crash, and a zeroing once more come to. -/
structure CutTold (g : List Blk8) (n : Nat) (R : DS × Int) (S4 : DS) : Prop where
  dn : (R.2 = 0 ∧ R.1.off = false) ∨ (R.2 = 13 ∧ R.1.off = true)
  now : ∀ i, i < g.length → S4.now.getD i zeroB = g.getD i zeroB ∨ (i < n ∧ S4.now.getD i zeroB = zeroB)
  clear : R.2 = 0 → S4.clear 0 n = true
  again : (S4.zeros n 0).2 = 0 ∧ (S4.zeros n 0).1.off = false ∧ (S4.zeros n 0).1.wait = [] ∧ (S4.zeros n 0).1.clear 0 n = true
theorem cut_told {g : List Blk8} {N n : Nat} {S : DS} (h : Flatd g N S) (hw : S.wait = []) (hl : S.last = g) (hn : n ≤ g.length) (a : Int) (ha : a ≤ 9223372036854775807) (keep : List Bool) :
    CutTold g n ((S.arm a).zeros n 0) (((S.arm a).zeros n 0).1.crash keep) := by
  have hok : (S.arm a).Ok N := h.ok.arm ha
  have hc : Cut g 0 n (S.arm a) := let c := h.cut hw hl 0 n; ⟨c.len, c.now, c.last, c.wait⟩
  obtain ⟨c1, c2, _⟩ := zeros_cut (p := 0) (n := n) (by omega) n 0 (S.arm a) N (by omega) hok (h.td.arm a) hc h.off (fun i hi => absurd hi (by omega))
  simp only [Nat.zero_add] at c1 c2
  have hokR := zeros_ok (n := n) (p := 0) hok
  have htdR := zeros_tied (n := n) (p := 0) hok (h.td.arm a)
  have c4 := c1.crash htdR hokR.len keep
  have hok4 := hokR.crash keep
  have htd4 := htdR.crash hokR.len keep
  obtain ⟨d1, d2, d3⟩ := zeros_cut (p := 0) (n := n) (by omega) n 0 _ _ (by omega) hok4 htd4 c4 (crash_off _ _) (fun i hi => absurd hi (by omega))
  simp only [Nat.zero_add] at d1 d2 d3
  have d3 := d3 (crash_arm _ _)
  refine ⟨?_, fun i hi => ?_, fun h0 => ?_, ?_⟩
  · rcases c2 with ⟨x, y, _⟩ | ⟨x, y⟩
    · exact .inl ⟨x, y⟩
    · exact .inr ⟨x, y⟩
  · rcases c4.now i hi with h1 | ⟨_, h2, h3⟩
    · exact .inl h1
    · exact .inr ⟨by omega, h3⟩
  · rcases c2 with ⟨_, _, x, y⟩ | ⟨x, _⟩
    · rw [clear_iff]
      intro i hi
      rw [crash_nowait x, Nat.zero_add]
      exact y i hi
    · rw [h0] at x; cases x
  · rcases d2 with ⟨x, y, z, u⟩ | ⟨x, _⟩
    · exact ⟨x, y, z, clear_iff.2 fun i hi => by rw [Nat.zero_add]; exact u i hi⟩
    · rw [d3.1] at x; cases x
end Go.Cu
namespace Go.Cu
/-- A zeroing with the power on, and a crash behind it. -/
theorem zero_told {g : List Blk8} {N n p : Nat} {S : DS} (h : Flatd g N S) (hw : S.wait = []) (hl : S.last = g) (hn : p + n ≤ g.length) (keep : List Bool) :
    (S.zeros n p).2 = 0 ∧ (S.zeros n p).1.off = false ∧ (∀ i, i < g.length → ((S.zeros n p).1.crash keep).now.getD i zeroB = if p ≤ i ∧ i < p + n then zeroB else g.getD i zeroB) ∧ ((S.zeros n p).1.crash keep).clear p n = true := by
  obtain ⟨c1, c2, c3⟩ := zeros_cut (p := p) (n := n) hn n 0 S N (by omega) h.ok h.td (h.cut hw hl p n) h.off (fun i hi => absurd hi (by omega))
  simp only [Nat.add_zero] at c1 c2 c3
  have e := (c3 h.arm).1
  rcases c2 with ⟨_, x, y, z⟩ | ⟨x, _⟩
  · have hnow : ((S.zeros n p).1.crash keep).now = (S.zeros n p).1.now := crash_nowait y keep
    refine ⟨e, x, fun i hi => ?_, ?_⟩
    · rw [hnow]
      split
      · rename_i hr
        have := z (i - p) (by omega)
        rwa [show p + (i - p) = i by omega] at this
      · rename_i hr
        rcases c1.now i hi with h1 | ⟨h2, h3, _⟩
        · exact h1
        · exact absurd ⟨h2, h3⟩ hr
    · rw [clear_iff]
      intro i hi
      rw [hnow]
      exact z i hi
  · rw [e] at x; cases x
end Go.Cu
/- A journal over a disk, plainly. No program. -/
namespace Go.Cu
/-- How many blocks a record of so many bytes needs. -/
def blocksN (size : Nat) : Nat := max ((size + 116) / 117) 1
theorem blocksN_pos (size : Nat) : 1 ≤ blocksN size := Nat.le_max_right _ _
theorem blocksN_fits (size : Nat) : size ≤ 117 * blocksN size := by unfold blocksN; omega
theorem blocksN_le {size : Nat} (h : size ≤ 65535) : blocksN size ≤ 561 := by unfold blocksN; omega
/-- Eight bytes of a number, the highest first. -/
def be8 (n : Nat) : List UInt8 := (List.range 8).map fun i => UInt8.ofNat (n / 2 ^ (8 * (7 - i)))
def headL (n size : Nat) : List UInt8 := 1 :: (be8 n ++ [UInt8.ofNat (size / 256), UInt8.ofNat size])
def restL : List UInt8 := 2 :: List.replicate 10 0
theorem be8_len (n : Nat) : (be8 n).length = 8 := by simp [be8]
theorem headL_len (n size : Nat) : (headL n size).length = 11 := by simp [headL, be8_len]
theorem restL_len : restL.length = 11 := rfl
def chunkL (k : Nat) (rec : List UInt8) : List UInt8 := (rec.drop (117 * k)).take 117
def padL (l : List UInt8) : List UInt8 := l ++ List.replicate (117 - l.length) 0
theorem chunkL_le (k : Nat) (rec : List UInt8) : (chunkL k rec).length ≤ 117 := by simp [chunkL]; omega
theorem padL_len {l : List UInt8} (h : l.length ≤ 117) : (padL l).length = 117 := by simp [padL]; omega
/-- The k-th block of record n. -/
def blockB (n k : Nat) (rec : List UInt8) : Blk8 := (if k = 0 then headL n rec.length else restL) ++ padL (chunkL k rec)
theorem blockB_len (n k : Nat) (rec : List UInt8) : (blockB n k rec).length = 128 := by
  unfold blockB
  rw [List.length_append, padL_len (chunkL_le k rec)]
  split
  · rw [headL_len]
  · rfl
def sizeOfB (b : Blk8) : Nat := (b.getD 9 0).toNat * 256 + (b.getD 10 0).toNat
structure Jn where
  first : Nat
  size : Nat
  used : Nat
  n : Nat
/-- The record that stands next. -/
def nextR (now : List Blk8) (J : Jn) : Option (List UInt8) :=
  if J.used = J.size then none
  else if (now.getD (J.first + J.used) zeroB).take 11 = headL J.n (sizeOfB (now.getD (J.first + J.used) zeroB)) ∧ blocksN (sizeOfB (now.getD (J.first + J.used) zeroB)) ≤ J.size - J.used then
    some (((List.range (blocksN (sizeOfB (now.getD (J.first + J.used) zeroB)))).flatMap fun k => (now.getD (J.first + J.used + k) zeroB).drop 11).take (sizeOfB (now.getD (J.first + J.used) zeroB)))
  else none
def Jn.more (J : Jn) (len : Nat) : Jn := { J with used := J.used + blocksN len, n := J.n + 1 }
/-- All records from a place on. -/
def readR (now : List Blk8) : Nat → Jn → List (List UInt8) × Jn
  | 0, J => ([], J)
  | f + 1, J => match nextR now J with
    | none => ([], J)
    | some r => let x := readR now f (J.more r.length); (r :: x.1, x.2)
/-- The blocks behind the head. -/
def DS.tailS (J : Jn) (rec : List UInt8) : Nat → Nat → DS → DS × Int
  | 0, _, S => (S, 0)
  | m + 1, k, S => if (S.write (J.first + J.used + k : Nat) (blockB J.n k rec)).2 ≠ 0 then S.write (J.first + J.used + k : Nat) (blockB J.n k rec) else DS.tailS J rec m (k + 1) (S.write (J.first + J.used + k : Nat) (blockB J.n k rec)).1
def DS.tailA (S : DS) (J : Jn) (rec : List UInt8) : DS × Int :=
  if (S.tailS J rec (blocksN rec.length - 1) 1).2 ≠ 0 then S.tailS J rec (blocksN rec.length - 1) 1
  else if blocksN rec.length = 1 then ((S.tailS J rec (blocksN rec.length - 1) 1).1, 0) else (S.tailS J rec (blocksN rec.length - 1) 1).1.sync
def DS.headA (S : DS) (J : Jn) (rec : List UInt8) : DS × Int :=
  if (S.write (J.first + J.used : Nat) (blockB J.n 0 rec)).2 ≠ 0 then S.write (J.first + J.used : Nat) (blockB J.n 0 rec) else (S.write (J.first + J.used : Nat) (blockB J.n 0 rec)).1.sync
/-- A record more. -/
def DS.append (S : DS) (J : Jn) (rec : List UInt8) : DS × Int :=
  if 65535 < rec.length then (S, 5) else if J.size - J.used < blocksN rec.length then (S, 7)
  else if (S.tailA J rec).2 ≠ 0 then S.tailA J rec else (S.tailA J rec).1.headA J rec
end Go.Cu
namespace Go.Cu
/-- Noughts in so many blocks, that last. -/
def DS.wipe : Nat → Nat → DS → DS × Int
  | 0, _, S => S.sync
  | n + 1, p, S => if (S.write (p : Int) zeroB).2 ≠ 0 then S.write (p : Int) zeroB else DS.wipe n (p + 1) (S.write (p : Int) zeroB).1
theorem wipe_stop {S : DS} {m p : Nat} (h : (S.write (p : Int) zeroB).2 ≠ 0) : S.wipe (m + 1) p = S.write (p : Int) zeroB := by rw [DS.wipe, if_pos h]
theorem wipe_go {S : DS} {m p : Nat} (h : (S.write (p : Int) zeroB).2 = 0) : S.wipe (m + 1) p = (S.write (p : Int) zeroB).1.wipe m (p + 1) := by rw [DS.wipe, if_neg (by rw [h]; decide)]
theorem tailS_stop {J : Jn} {rec : List UInt8} {S : DS} {m k : Nat} (h : (S.write (J.first + J.used + k : Nat) (blockB J.n k rec)).2 ≠ 0) : S.tailS J rec (m + 1) k = S.write (J.first + J.used + k : Nat) (blockB J.n k rec) := by rw [DS.tailS, if_pos h]
theorem tailS_go {J : Jn} {rec : List UInt8} {S : DS} {m k : Nat} (h : (S.write (J.first + J.used + k : Nat) (blockB J.n k rec)).2 = 0) : S.tailS J rec (m + 1) k = (S.write (J.first + J.used + k : Nat) (blockB J.n k rec)).1.tailS J rec m (k + 1) := by rw [DS.tailS, if_neg (by rw [h]; decide)]
end Go.Cu
/- What a journal reckons: blocks, whether the blocks are there. -/
namespace Go.Proofs.Ythmchbdhikakhaa
open Go.RowKit Go.Cu
/-- Blocks of a number of bytes, whatever it is. -/
def blocksI (s : Int) : Int := if s < 0 ∨ 65535 < s then 0 else blocksN s.toNat
theorem blocksI_nat {n : Nat} (h : n ≤ 65535) : blocksI n = blocksN n := by
  unfold blocksI
  rw [if_neg (by omega), Int.toNat_natCast]
set_option maxHeartbeats 400000 in
theorem blocks_any (s : Int) (w : World) : Calls Try.prog 48 #[.int .i64 s] w fun r w' => r = .returned (.int .i64 (blocksI s)) ∧ w = w' := by
  unfold blocksI
  by_cases h1 : s < 0
  · rw [if_pos (.inl h1)]
    go_enter Try.func48, Try.ntmps48
    go_wp2
    go_ret
    exact ⟨rfl, rfl⟩
  · by_cases h2 : 65535 < s
    · rw [if_pos (.inr h2)]
      go_enter Try.func48, Try.ntmps48
      go_wp2
      go_ret
      exact ⟨rfl, rfl⟩
    · rw [if_neg (by omega)]
      have h0 : 0 ≤ s := by omega
      have h3 : s ≤ 65535 := by omega
      obtain ⟨q, hq⟩ : ∃ q : Int, (s + 117 - 1) / 117 = q := ⟨_, rfl⟩
      have hq0 : 0 ≤ q := by omega
      have hq1 : q ≤ 561 := by omega
      have HB := hid (show ((blocksN s.toNat : Nat) : Int) = max q 1 by unfold blocksN; omega)
      by_cases h4 : 1 ≤ q
      · have HM := hid (show max q 1 = q by omega)
        go_enter Try.func48, Try.ntmps48
        go_wp2
        go_ret
        rw [HB.out, HM.out]
        exact ⟨rfl, rfl⟩
      · have HM := hid (show max q 1 = 1 by omega)
        go_enter Try.func48, Try.ntmps48
        go_wp2
        go_ret
        rw [HB.out, HM.out]
        exact ⟨rfl, rfl⟩
set_option maxHeartbeats 400000 in
theorem rblocks_any (s : Int) (w : World) : Calls Try.prog 49 #[.int .i64 s] w fun r w' => r = .returned (.int .i64 (blocksI s)) ∧ w = w' := by
  unfold blocksI
  by_cases h1 : s < 0
  · rw [if_pos (.inl h1)]
    go_enter Try.func49, Try.ntmps49
    go_wp2
    go_ret
    exact ⟨rfl, rfl⟩
  · by_cases h2 : 65535 < s
    · rw [if_pos (.inr h2)]
      go_enter Try.func49, Try.ntmps49
      go_wp2
      go_ret
      exact ⟨rfl, rfl⟩
    · rw [if_neg (by omega)]
      have h3 : s ≤ 65535 := by omega
      have HB := hid (show ∀ n : Nat, s ≤ 117 * n → (n = 1 ∨ 117 * ((n : Int) - 1) < s) → 1 ≤ n → blocksN s.toNat = n from fun n a b c => by unfold blocksN; omega)
      go_enter Try.func49, Try.ntmps49
      go_wp2
      go_loop [3] (fun v => ∃ n : Nat, 1 ≤ n ∧ n ≤ 561 ∧ (n = 1 ∨ 117 * ((n : Int) - 1) < s) ∧ v = .int .i64 n) (fun v => 561 - (intOf v).toNat)
      case atStart => exact ⟨1, by omega, by omega, .inl rfl, rfl⟩
      case round =>
        obtain ⟨n, hn1, hn2, hn3, rfl⟩ := hrel
        by_cases hlt : 117 * (n : Int) < s
        · have hn4 : n ≤ 560 := by omega
          go_wp2
          go_round
          case rel => exact ⟨n + 1, by omega, by omega, .inr (by omega), by go_num⟩
          case measure => simp [intOf]; omega
        · have HE := hid (HB.out n (by omega) hn3 hn1)
          clear hn3
          go_wp2
          go_ret
          rw [HE.out]
          exact ⟨rfl, rfl⟩
/-- Are the blocks there? -/
def fitsI (n f s : Int) : Prop := 0 ≤ f ∧ 1 ≤ s ∧ s ≤ n ∧ f ≤ n - s
section
variable {W0 W : World} {L : List Atm} {p : Nat} {S : DS} {N : Nat}
set_option maxHeartbeats 400000 in
theorem fits_nil (f s : Int) (w : World) : Calls Try.prog 62 #[.pointer none, .int .i64 f, .int .i64 s] w fun r w' => r = .returned (.bool false) ∧ w = w' := by
  go_enter Try.func62, Try.ntmps62
  go_wp2
  go_ret
  exact ⟨rfl, rfl⟩
set_option maxHeartbeats 1000000 in
theorem fits_bad (h : St W0 (Disk p S :: L) W) (hok : S.Ok N) {f s n : Int} (hn : n = S.now.length) (hb : ¬ fitsI n f s) :
    Calls Try.prog 62 #[.pointer (some ⟨p, 0, none⟩), .int .i64 f, .int .i64 s] W fun r w' => r = .returned (.bool false) ∧ W = w' := by
  unfold fitsI at hb
  have hbig := hok.big
  have HS := hid (size_st h)
  rw [← hn] at HS
  have hn0 : 0 ≤ n := by omega
  have hn1 : n ≤ 8192 := by omega
  clear h hok hn hbig
  by_cases g0 : 0 ≤ f
  rotate_left
  · clear hb
    go_enter Try.func62, Try.ntmps62
    go_wp2_with (go_at_call 29; (with_reducible refine HS.out.mono ?_); rintro x w' ⟨rfl, rfl⟩)
    go_ret
    exact ⟨rfl, rfl⟩
  by_cases g1 : 1 ≤ s
  rotate_left
  · clear hb
    go_enter Try.func62, Try.ntmps62
    go_wp2_with (go_at_call 29; (with_reducible refine HS.out.mono ?_); rintro x w' ⟨rfl, rfl⟩)
    go_ret
    exact ⟨rfl, rfl⟩
  by_cases g2 : s ≤ n
  rotate_left
  · clear hb
    go_enter Try.func62, Try.ntmps62
    go_wp2_with (go_at_call 29; (with_reducible refine HS.out.mono ?_); rintro x w' ⟨rfl, rfl⟩)
    go_ret
    exact ⟨rfl, rfl⟩
  have g3 : ¬ f ≤ n - s := fun hc => hb ⟨g0, g1, g2, hc⟩
  clear hb
  go_enter Try.func62, Try.ntmps62
  go_wp2_with (go_at_call 29; (with_reducible refine HS.out.mono ?_); rintro x w' ⟨rfl, rfl⟩)
  go_ret
  exact ⟨congrArg (fun b => Ending.returned (.bool b)) (decide_eq_false (by omega)), rfl⟩
set_option maxHeartbeats 1000000 in
theorem fits_ok (h : St W0 (Disk p S :: L) W) (hok : S.Ok N) {f s n : Int} (hn : n = S.now.length) (hb : fitsI n f s) :
    Calls Try.prog 62 #[.pointer (some ⟨p, 0, none⟩), .int .i64 f, .int .i64 s] W fun r w' => r = .returned (.bool true) ∧ W = w' := by
  obtain ⟨g0, g1, g2, g3⟩ := hb
  have hbig := hok.big
  have HS := hid (size_st h)
  rw [← hn] at HS
  have hn0 : 0 ≤ n := by omega
  have hn1 : n ≤ 8192 := by omega
  clear h hok hn hbig
  go_enter Try.func62, Try.ntmps62
  go_wp2_with (go_at_call 29; (with_reducible refine HS.out.mono ?_); rintro x w' ⟨rfl, rfl⟩)
  go_ret
  exact ⟨rfl, rfl⟩
end
end Go.Proofs.Ythmchbdhikakhaa
/- What DiskLasts asks, plainly. -/
namespace Go.Proofs.Ythmchbdhikakhaa
open Go.RowKit Go.Cu
theorem write_plain {S : DS} (ho : S.off = false) (ha : S.armed = 0) {i : Nat} (hi : i < S.now.length) (b : Bk) : S.write (i : Int) b = (S.put i b, 0) := by
  have hz : S.at_ (i : Int) = 0 := by
    unfold DS.at_
    rw [ho]
    simp only [Bool.false_eq_true, if_false]
    rw [if_neg (by omega)]
  unfold DS.write
  rw [if_neg (by simpa using hz), Int.toNat_natCast]
  exact DS.put_tick0 ha
structure Good1 (first : List UInt8) (k : Nat) (S : DS) : Prop where
  ok : S.Ok k
  td : S.Tied
  off : S.off = false
  arm : S.armed = 0
  len : S.now.length = 8
  now : ∀ i, i < 8 → S.now.getD i zeroB = if i < k then oneB (first.getD i 0) else zeroB
theorem good1_start (first : List UInt8) : Good1 first 0 (DS.new 8) := by
  refine ⟨DS.Ok.new (by decide), DS.Tied.new 8, rfl, rfl, by simp [DS.new], fun i hi => ?_⟩
  rw [if_neg (by omega)]
  show (List.replicate 8 zeroB).getD i zeroB = zeroB
  rw [List.getD_eq_getElem?_getD, List.getElem?_replicate, if_pos hi]
  rfl
theorem good1_step {first : List UInt8} {k : Nat} {S : DS} (h : Good1 first k S) (hk : k < 8) : Good1 first (k + 1) (S.write (k : Int) (oneB (first.getD k 0))).1 := by
  have hl : k < S.now.length := by rw [h.len]; exact hk
  rw [write_plain h.off h.arm hl]
  refine ⟨h.ok.put hl (oneB_len _), h.td.put _ _, h.off, h.arm, by simpa [DS.put] using h.len, fun i hi => ?_⟩
  show (S.now.set k (oneB (first.getD k 0))).getD i zeroB = _
  rw [List.getD_eq_getElem?_getD]
  by_cases e : k = i
  · subst e
    rw [List.getElem?_set_self hl, if_pos (by omega)]
    rfl
  · rw [List.getElem?_set_ne e, ← List.getD_eq_getElem?_getD, h.now i hi]
    by_cases h1 : i < k
    · rw [if_pos h1, if_pos (by omega)]
    · rw [if_neg h1, if_neg (by omega)]
structure Good2 (first : List UInt8) (t : List Bool) (N : Nat) (S : DS) : Prop where
  ok : S.Ok N
  off : S.off = false
  arm : S.armed = 0
  len : S.now.length = 8
  tl : t.length = 8
  wait : ∀ p ∈ S.wait, t.getD p.1 false = true
  now : ∀ i, i < 8 → t.getD i false = false → S.now.getD i zeroB = oneB (first.getD i 0) ∧ S.last.getD i zeroB = oneB (first.getD i 0)
theorem oneB_zero : oneB 0 = zeroB := rfl
theorem good2_start {first : List UInt8} {k : Nat} {S : DS} (h : Good1 first k S) (hk : k = 8 ∨ first.length ≤ k) : Good2 first (List.replicate 8 false) k S.sync.1 ∧ S.sync.2 = 0 := by
  have hall : ∀ i, i < 8 → S.now.getD i zeroB = oneB (first.getD i 0) := fun i hi => by
    rw [h.now i hi]
    by_cases h1 : i < k
    · rw [if_pos h1]
    · rw [if_neg h1, List.getD_eq_getElem?_getD, List.getElem?_eq_none (by omega)]
      rfl
  have e : S.sync = (S.settle fun _ => true, 0) := by simp [DS.sync, h.off]
  rw [e]
  have e1 : (S.settle fun _ => true).now = S.now := (settle_now h.td h.ok.len _).trans (by show lastOf _ 0 S.wait S.last = S.now; exact h.td.now.symm)
  have e2 : (S.settle fun _ => true).last = S.now := h.td.now.symm
  refine ⟨⟨h.ok.settle _, h.off, h.arm, by rw [e1]; exact h.len, by simp, fun p hp => by simp [DS.settle] at hp, fun i hi _ => ⟨by rw [e1]; exact hall i hi, by rw [e2]; exact hall i hi⟩⟩, rfl⟩
theorem good2_step {first : List UInt8} {t : List Bool} {N : Nat} {S : DS} (h : Good2 first t N S) {a : Nat} (ha : a < 8) {b : Bk} (hb : b.length = 128) : Good2 first (t.set a true) (N + 1) (S.write (a : Int) b).1 := by
  have hl : a < S.now.length := by rw [h.len]; exact ha
  have htl := h.tl
  rw [write_plain h.off h.arm hl]
  have hset : ∀ i, (t.set a true).getD i false = true ↔ (i = a ∨ t.getD i false = true) := fun i => by
    rw [List.getD_eq_getElem?_getD, List.getD_eq_getElem?_getD]
    by_cases e : a = i
    · subst e
      rw [List.getElem?_set_self (by omega)]
      simp
    · rw [List.getElem?_set_ne e]
      exact ⟨.inr, fun h => h.elim (fun h => absurd h.symm e) id⟩
  refine ⟨h.ok.put hl hb, h.off, h.arm, by simpa [DS.put] using h.len, by simpa using h.tl, fun p hp => ?_, fun i hi ht => ?_⟩
  · simp only [DS.put, List.mem_append, List.mem_singleton] at hp
    rw [hset]
    rcases hp with hp | rfl
    · exact .inr (h.wait p hp)
    · exact .inl rfl
  · have hne : i ≠ a ∧ t.getD i false = false := by
      have h1 : ¬ (t.set a true).getD i false = true := by rw [ht]; decide
      rw [hset] at h1
      exact ⟨fun e => h1 (.inl e), by
        cases h2 : t.getD i false with
        | false => rfl
        | true => exact absurd (.inr h2) h1⟩
    obtain ⟨h1, h2⟩ := h.now i hi hne.2
    refine ⟨?_, h2⟩
    show (S.now.set a b).getD i zeroB = _
    rw [List.getD_eq_getElem?_getD, List.getElem?_set_ne (Ne.symm hne.1), ← List.getD_eq_getElem?_getD]
    exact h1
theorem good2_crash {first : List UInt8} {t : List Bool} {N : Nat} {S : DS} (h : Good2 first t N S) (keep : List Bool) :
    (S.crash keep).Ok N ∧ ∀ i : Nat, i < 8 → (S.crash keep).at_ i = 0 ∧ (t.getD i false = false → (S.crash keep).now.getD i zeroB = oneB (first.getD i 0)) := by
  refine ⟨h.ok.crash keep, fun i hi => ⟨?_, fun ht => ?_⟩⟩
  · have hl : (S.crash keep).now.length = 8 := (nowOf_len _ _ _).trans h.len
    unfold DS.at_
    rw [show (S.crash keep).off = false from rfl]
    simp only [Bool.false_eq_true, if_false]
    rw [if_neg (by omega)]
  · show (nowOf (lastOf _ 0 S.wait S.last) S.wait S.now).getD i zeroB = _
    rw [List.getD_eq_getElem?_getD, nowOf_other _ i _ _ (fun p hp e => by have := h.wait p hp; rw [e, ht] at this; cases this), ← List.getD_eq_getElem?_getD]
    exact (h.now i hi ht).1
end Go.Proofs.Ythmchbdhikakhaa
/- DiskLasts: the walk. -/
namespace Go.Proofs.Ythmchbdhikakhaa
open Go.RowKit Go.Cu
/-- A byte, and a one behind it. -/
def markB (b : UInt8) : Bk := b :: 1 :: List.replicate 126 0
theorem markB_len (b : UInt8) : (markB b).length = 128 := by simp [markB]
set_option maxRecDepth 20000 in
theorem build33_one (b : UInt8) (W : World) : (Instr.build 33 #[(0, .int .u8 b.toNat)]).run Try.prog W = .ok (.agg (bv (oneB b))) W := by kernel_rfl
set_option maxRecDepth 20000 in
theorem build33_mark (b : UInt8) (W : World) : (Instr.build 33 #[(0, .int .u8 b.toNat), (1, .int .u8 1)]).run Try.prog W = .ok (.agg (bv (markB b))) W := by kernel_rfl
/-- Words as cells. -/
def wv (l : List Bool) : Array Value := (l.map Value.bool).toArray
theorem wv_size (l : List Bool) : (wv l).size = l.length := by simp [wv]
theorem wv_get (l : List Bool) (i : Nat) (h : i < l.length) : (wv l)[i]? = some (.bool (l.getD i false)) := by simp [wv, h]
theorem wv_set (l : List Bool) (i : Nat) (b : Bool) : (wv l).setIfInBounds i (.bool b) = wv (l.set i b) := by
  apply Array.ext_getElem?
  intro j
  simp only [wv, Array.getElem?_setIfInBounds, List.getElem?_toArray, List.getElem?_map, List.getElem?_set, List.size_toArray, List.length_map]
  by_cases h : i = j
  · subst h
    by_cases h2 : i < l.length <;> simp [h2]
  · simp [h]
theorem zero30 (W : World) : (zeroValue 30).run Try.prog W = .ok (.agg (wv (List.replicate 8 false))) W := by kernel_rfl
set_option maxRecDepth 20000 in
set_option maxHeartbeats 4000000 in
theorem lasts_walk {first : List UInt8} {F0 : Option Addr} {c0 : Nat} {row : List JobD} {A : Option Addr} {c : Nat} {keep : List Bool} {K0 : Option Addr} {ck : Nat} (w : World) (hf : BytesIn w F0 first) (hfl : first.length ≤ maxLen) (hr : JobsIn w A row) (hk : KeepIn w K0 keep) (hkl : keep.length ≤ 9223372036854775807) :
    Calls Try.prog 3 #[.slice F0 first.length c0, .slice A row.length c, .slice K0 keep.length ck] w fun x w' => x = .returned (.bool true) ∧ Below w.heap.size w w' := by
  unfold maxLen at hfl
  have HF := hid hf
  have HR := hid hr
  have HK := hid hk
  clear hf hr hk
  go_enter Try.func3, Try.ntmps3
  go_upto_block 0 with (first | (go_at_call 13; (with_reducible refine (new_sti (St.start w) (m := 8) (n := 8) rfl (by decide) (by decide)).mono ?_); rintro x w1 ⟨p, rfl, hs1⟩) | (go_at_call 14; (with_reducible refine (disks_st hs1).mono ?_); rintro x w2 ⟨rfl, hs2⟩) | (refine wpList_alloc 30 rfl rfl _ zero30 ?_; intro gt W3 hT htl htg hW3; have hs3 := (hs2.newBlk hW3 htg hT).at2))
  have HS := hid hs3
  clear hs1 hs2 hs3 hT htl htg hW3
  go_cut [] (fun wx => ∃ (k : Nat) (S : DS), k ≤ 8 ∧ Hid (Good2 first (List.replicate 8 false) k S.sync.1) ∧ Hid (S.sync.2 = 0) ∧ Hid (S.Ok 8) ∧ Hid (St w [Disk p S, Blk gt (wv (List.replicate 8 false)) 30] wx))
  case first =>
    go_wp2_with fail
    go_loopw [10] (fun i X => ∃ k : Nat, k ≤ 8 ∧ k ≤ first.length ∧ i = .int .i64 k ∧ ∃ S : DS, Hid (Good1 first k S) ∧ Hid (St w [Disk p S, Blk gt (wv (List.replicate 8 false)) 30] X)) (fun i _ => 8 - (intOf i).toNat)
    case atStart => exact ⟨0, by omega, by omega, rfl, DS.new 8, hid (good1_start first), HS⟩
    case round =>
      clear HS
      obtain ⟨k, hk8, hkf, rfl, S, HG, HS⟩ := hrel
      by_cases hlt : k < 8 ∧ k < first.length
      · obtain ⟨h8, hkl2⟩ := hlt
        have e1 : (k : Int) < 8 := by omega
        have e2 : (k : Int) < (first.length : Int) := by omega
        obtain ⟨b, hb⟩ : ∃ b, first[k]? = some b := ⟨_, List.getElem?_eq_getElem hkl2⟩
        obtain ⟨g, o, rfl, hg, hc⟩ := HF.out k b hb
        have d0 := (HS.out.below.cell (p := ⟨g, o + k, none⟩) hg).trans hc
        have BB := fun W => run_buildK (build33_one b W)
        have HB := hid (show first.getD k 0 = b by rw [List.getD_eq_getElem?_getD, hb]; rfl)
        clear hb hc
        go_wp2_with (go_at_call 15; (with_reducible refine (write_st HS.out HG.out.ok (by omega) _ (oneB_len b)).mono ?_); rintro x w4 ⟨rfl, hs4⟩; have HS4 := hid hs4; clear hs4)
        go_roundw
        case rel => exact ⟨k + 1, by omega, by omega, by go_num, _, hid (good1_step HG.out h8), hid (by rw [HB.out]; exact HS4.out)⟩
        case measure => simp [intOf]; omega
      · have HE := hid (show k = 8 ∨ first.length ≤ k by omega)
        by_cases h8 : k < 8
        · have e1 : (k : Int) < 8 := by omega
          have e2 : ¬ (k : Int) < (first.length : Int) := by omega
          clear hlt
          go_wp2_with fail
          go_meet
          exact ⟨k, S, hk8, hid (good2_start HG.out HE.out).1, hid (good2_start HG.out HE.out).2, hid (HG.out.ok.mono hk8), HS⟩
        · have e1 : ¬ (k : Int) < 8 := by omega
          clear hlt
          go_wp2_with fail
          go_meet
          exact ⟨k, S, hk8, hid (good2_start HG.out HE.out).1, hid (good2_start HG.out HE.out).2, hid (HG.out.ok.mono hk8), HS⟩
  case rest =>
    clear HS
    obtain ⟨k, S, hk8, HG, HZ, HO, HS⟩ := hcut
    go_upto_block 2 with (go_at_call 16; (with_reducible refine (sync_st HS.out HO.out (by omega)).mono ?_); rintro x w5 ⟨hx, hs5⟩; have HS5 := hid hs5; rw [HZ.out] at hx; subst hx; clear hs5)
    go_cut [] (fun wx => ∃ (N : Nat) (S2 : DS) (t : List Bool), N ≤ 28 ∧ Hid (Good2 first t N S2) ∧ Hid (St w [Disk p S2, Blk gt (wv t) 30] wx))
    case first =>
      go_wp2_with fail
      go_loopw [11, 12] (fun i _ X => ∃ k2 : Nat, k2 ≤ 20 ∧ i = .int .i64 k2 ∧ ∃ (S2 : DS) (t : List Bool), Hid (Good2 first t (k + k2) S2) ∧ Hid (St w [Disk p S2, Blk gt (wv t) 30] X)) (fun i _ _ => 20 - (intOf i).toNat)
      case atStart => exact ⟨0, by omega, rfl, _, _, HG, HS5⟩
      case round =>
        clear HS HS5 HG HZ HO
        obtain ⟨k2, hk2, rfl, S2, t, HG, HS⟩ := hrel
        by_cases hlt : k2 < row.length ∧ k2 < 20
        · obtain ⟨hkr, hk20⟩ := hlt
          have e1 : (k2 : Int) < (row.length : Int) := by omega
          have e2 : (k2 : Int) < 20 := by omega
          obtain ⟨j, hj⟩ : ∃ j, row[k2]? = some j := ⟨_, List.getElem?_eq_getElem hkr⟩
          obtain ⟨ga, oa, Ak, ck, rfl, hab, _, _, b1, b2, b3, b4, c0, c1, c2, c3⟩ := HR.out k2 j hj
          have d1 := (HS.out.below.cell (p := ⟨ga, oa + k2 * 4 + 1, none⟩) hab).trans c1
          have d2 := (HS.out.below.cell (p := ⟨ga, oa + k2 * 4 + 2, none⟩) hab).trans c2
          obtain ⟨r, er, hr8⟩ := u64_rem j.at_ 8 (by decide)
          simp only [Int.cast_ofNat_Int] at er
          have BB := fun W => run_buildK (build33_mark j.by_ W)
          have hr8' : (r : Int) < 8 := by omega
          have hr0 : (0 : Int) ≤ (r : Int) := by omega
          have htl := hid HG.out.tl
          clear c0 c1 c2 c3 hj
          go_wp2_with (go_at_call 15; (with_reducible refine (write_st HS.out HG.out.ok (by omega) _ (markB_len j.by_)).mono ?_); rintro x w4 ⟨rfl, hs4⟩; have ct : w4.cell? ⟨gt, r, none⟩ = some (.bool (t.getD r false)) := (blk_cell hs4.at2 r).trans (wv_get t r (by rw [htl.out]; exact hr8)); have ft : w4.frozen? ⟨gt, r, none⟩ = false := frozen_of_row w4 gt r _ _ hs4.at2.blk; have HS4 := hid hs4; clear hs4)
          go_roundw
          case rel =>
            refine ⟨k2 + 1, by omega, by go_num, _, _, hid (good2_step HG.out hr8 (markB_len j.by_)), hid ?_⟩
            rw [← wv_set]
            exact (HS4.out.at2.setCell r (.bool true)).at2
          case measure => simp [intOf]; omega
        · by_cases hkr : k2 < row.length
          · have e1 : (k2 : Int) < (row.length : Int) := by omega
            have e2 : ¬ (k2 : Int) < 20 := by omega
            clear hlt
            go_wp2_with fail
            go_meet
            exact ⟨k + k2, S2, t, by omega, HG, HS⟩
          · have e1 : ¬ (k2 : Int) < (row.length : Int) := by omega
            clear hlt
            go_wp2_with fail
            go_meet
            exact ⟨k + k2, S2, t, by omega, HG, HS⟩
    case rest =>
      clear HS HS5 HG HZ HO
      obtain ⟨N, S2, t, hN, HG, HS⟩ := hcut
      have HC := hid (good2_crash HG.out keep)
      go_wp2_with (go_at_call 17; (with_reducible refine (crash_st HS.out HG.out.ok (by omega) hkl HK.out).mono ?_); rintro x w5 ⟨rfl, hs5⟩; have HS5 := hid hs5; clear hs5)
      go_loopw [13] (fun i X => ∃ k3 : Nat, k3 ≤ 8 ∧ i = .int .i64 k3 ∧ Hid (St w [Disk p (S2.crash keep), Blk gt (wv t) 30] X)) (fun i _ => 8 - (intOf i).toNat)
      case atStart => exact ⟨0, by omega, rfl, HS5⟩
      case round =>
        clear HS HS5
        obtain ⟨k3, hk3, rfl, HS⟩ := hrel
        by_cases h8 : k3 < 8
        · have e1 : (k3 : Int) < 8 := by omega
          have e0 : (0 : Int) ≤ (k3 : Int) := by omega
          obtain ⟨V, hV⟩ : ∃ V, V = (S2.crash keep).rd (k3 : Int) := ⟨_, rfl⟩
          have hat := (HC.out.2 k3 h8).1
          have HVL := hid (show V.length = 128 by rw [hV]; exact rd_len HC.out.1 _)
          have HVZ := hid ((bv_size V).trans HVL.out)
          have HRD := hid (show ∀ X, St w [Disk p (S2.crash keep), Blk gt (wv t) 30] X → Calls Try.prog 18 #[.pointer (some ⟨p, 0, none⟩), .int .i64 k3] X fun x X' => x = .returned (.tuple #[.agg (bv V), .int .i64 0]) ∧ St w [Disk p (S2.crash keep), Blk gt (wv t) 30] X' from fun X h => (read_rd h HC.out.1 _).mono fun x X' hx => ⟨by rw [hx.1, hat, hV], hx.2⟩)
          have HV := hid (show t.getD k3 false = false → V = oneB (first.getD k3 0) from fun ht => by
            rw [hV]
            unfold DS.rd
            rw [if_pos hat, Int.toNat_natCast]
            exact (HC.out.2 k3 h8).2 ht)
          clear hV hat
          have htl := hid HG.out.tl
          by_cases hlt : k3 < first.length
          · have e2 : (k3 : Int) < (first.length : Int) := by omega
            obtain ⟨b, hb⟩ : ∃ b, first[k3]? = some b := ⟨_, List.getElem?_eq_getElem hlt⟩
            obtain ⟨g, o, rfl, hg, hc⟩ := HF.out k3 b hb
            have HC0 := hid hc
            have BB := fun W => run_buildK (build33_one b W)
            have HB := hid (show first.getD k3 0 = b by rw [List.getD_eq_getElem?_getD, hb]; rfl)
            clear hb hc
            cases ht : t.getD k3 false
            · have hV := HV.out ht
              rw [HB.out] at hV
              have CM := fun (x y : Operand) (W : World) => run_cmpK_neq (P := Try.prog) guard33 Try.underlying33 be5 cells5 HVL.out (oneB_len b) x y W
              simp only [hV, decide_true, Bool.not_true] at CM
              subst hV
              clear HV
              go_wp2_with (first | (go_at_call 18; (with_reducible refine (HRD.out _ HS.out).mono ?_); rintro x w6 ⟨rfl, hs6⟩; have HS6 := hid hs6; clear hs6) | (refine wpList_alloc 33 rfl rfl (.agg (bv zeroB)) zero33 ?_; intro gA W7 hA hal hag hW7) | (refine wpList_store_box 33 _ _ rfl gA rfl rfl (bv (oneB b)) rfl 128 size33 HVZ.out (bv_one _) 33 _ hA bvz ?_; intro W8 hA8 hT8 hs8; have H8 := hid ((HS6.out.newBlk hW7 hag hA).put hA8 hT8).back3; have ct : W8.cell? ⟨gt, k3, none⟩ = some (.bool (t.getD k3 false)) := (blk_cell H8.out.at2 k3).trans (wv_get t k3 (by rw [htl.out]; exact h8)); have LA : (loadK 33 (.pointer (some ⟨gA, 0, none⟩))).run Try.prog W8 = .ok (.value (.agg (bv (oneB b)))) W8 := run_loadK_box hA8 Try.underlying33 rfl size33 HVZ.out; rw [ht] at ct; have d0 := (H8.out.below.cell (p := ⟨g, o + k3, none⟩) hg).trans HC0.out))
              clear ct LA hA8 d0
              go_roundw
              case rel => exact ⟨k3 + 1, by omega, by go_num, hid H8.out.drop3⟩
              case measure => simp [intOf]; omega
            · clear HV
              go_wp2_with (first | (go_at_call 18; (with_reducible refine (HRD.out _ HS.out).mono ?_); rintro x w6 ⟨rfl, hs6⟩; have HS6 := hid hs6; clear hs6) | (refine wpList_alloc 33 rfl rfl (.agg (bv zeroB)) zero33 ?_; intro gA W7 hA hal hag hW7) | (refine wpList_store_box 33 _ _ rfl gA rfl rfl (bv V) rfl 128 size33 HVZ.out (bv_one _) 33 _ hA bvz ?_; intro W8 hA8 hT8 hs8; have H8 := hid ((HS6.out.newBlk hW7 hag hA).put hA8 hT8).back3; have ct : W8.cell? ⟨gt, k3, none⟩ = some (.bool (t.getD k3 false)) := (blk_cell H8.out.at2 k3).trans (wv_get t k3 (by rw [htl.out]; exact h8)); have LA : (loadK 33 (.pointer (some ⟨gA, 0, none⟩))).run Try.prog W8 = .ok (.value (.agg (bv V))) W8 := run_loadK_box hA8 Try.underlying33 rfl size33 HVZ.out; rw [ht] at ct; have d0 := (H8.out.below.cell (p := ⟨g, o + k3, none⟩) hg).trans HC0.out))
              clear ct LA hA8 d0
              go_roundw
              case rel => exact ⟨k3 + 1, by omega, by go_num, hid H8.out.drop3⟩
              case measure => simp [intOf]; omega
          · have e2 : ¬ (k3 : Int) < (first.length : Int) := by omega
            have BB := fun W => run_buildK (build33_one 0 W)
            have HB := hid (show first.getD k3 0 = 0 by rw [List.getD_eq_getElem?_getD, List.getElem?_eq_none (by omega)]; rfl)
            simp only [show (((0 : UInt8).toNat : Nat) : Int) = 0 from rfl] at BB
            cases ht : t.getD k3 false
            · have hV := HV.out ht
              rw [HB.out] at hV
              have CM := fun (x y : Operand) (W : World) => run_cmpK_neq (P := Try.prog) guard33 Try.underlying33 be5 cells5 HVL.out (oneB_len 0) x y W
              simp only [hV, decide_true, Bool.not_true] at CM
              subst hV
              clear HV
              go_wp2_with (first | (go_at_call 18; (with_reducible refine (HRD.out _ HS.out).mono ?_); rintro x w6 ⟨rfl, hs6⟩; have HS6 := hid hs6; clear hs6) | (refine wpList_alloc 33 rfl rfl (.agg (bv zeroB)) zero33 ?_; intro gA W7 hA hal hag hW7) | (refine wpList_store_box 33 _ _ rfl gA rfl rfl (bv (oneB 0)) rfl 128 size33 HVZ.out (bv_one _) 33 _ hA bvz ?_; intro W8 hA8 hT8 hs8; have H8 := hid ((HS6.out.newBlk hW7 hag hA).put hA8 hT8).back3; have ct : W8.cell? ⟨gt, k3, none⟩ = some (.bool (t.getD k3 false)) := (blk_cell H8.out.at2 k3).trans (wv_get t k3 (by rw [htl.out]; exact h8)); have LA : (loadK 33 (.pointer (some ⟨gA, 0, none⟩))).run Try.prog W8 = .ok (.value (.agg (bv (oneB 0)))) W8 := run_loadK_box hA8 Try.underlying33 rfl size33 HVZ.out; rw [ht] at ct))
              clear ct LA hA8
              go_roundw
              case rel => exact ⟨k3 + 1, by omega, by go_num, hid H8.out.drop3⟩
              case measure => simp [intOf]; omega
            · clear HV
              go_wp2_with (first | (go_at_call 18; (with_reducible refine (HRD.out _ HS.out).mono ?_); rintro x w6 ⟨rfl, hs6⟩; have HS6 := hid hs6; clear hs6) | (refine wpList_alloc 33 rfl rfl (.agg (bv zeroB)) zero33 ?_; intro gA W7 hA hal hag hW7) | (refine wpList_store_box 33 _ _ rfl gA rfl rfl (bv V) rfl 128 size33 HVZ.out (bv_one _) 33 _ hA bvz ?_; intro W8 hA8 hT8 hs8; have H8 := hid ((HS6.out.newBlk hW7 hag hA).put hA8 hT8).back3; have ct : W8.cell? ⟨gt, k3, none⟩ = some (.bool (t.getD k3 false)) := (blk_cell H8.out.at2 k3).trans (wv_get t k3 (by rw [htl.out]; exact h8)); have LA : (loadK 33 (.pointer (some ⟨gA, 0, none⟩))).run Try.prog W8 = .ok (.value (.agg (bv V))) W8 := run_loadK_box hA8 Try.underlying33 rfl size33 HVZ.out; rw [ht] at ct))
              clear ct LA hA8
              go_roundw
              case rel => exact ⟨k3 + 1, by omega, by go_num, hid H8.out.drop3⟩
              case measure => simp [intOf]; omega
        · have e1 : ¬ (k3 : Int) < 8 := by omega
          go_wp2
          go_ret
          exact ⟨rfl, HS.out.below⟩
end Go.Proofs.Ythmchbdhikakhaa
/- begin: a head without bytes. -/
namespace Go.Proofs.Ythmchbdhikakhaa
open Go.RowKit Go.Cu
/-- The head so far. -/
def headTo (n k : Nat) : Bk := 1 :: ((be8 n).take k ++ List.replicate (127 - k) 0)
theorem headTo_len (n : Nat) {k : Nat} (hk : k ≤ 8) : (headTo n k).length = 128 := by simp [headTo, be8_len]; omega
theorem be8_get (n : Nat) {k : Nat} (hk : k < 8) : (be8 n)[k]? = some (UInt8.ofNat (n / 2 ^ (8 * (7 - k)))) := by
  unfold be8
  rw [List.getElem?_map, List.getElem?_range hk]
  rfl
theorem set_mid {α : Type} (a : List α) (m : Nat) (z x : α) : (a ++ List.replicate (m + 1) z).set a.length x = a ++ [x] ++ List.replicate m z := by
  rw [List.set_append_right _ _ (Nat.le_refl _), Nat.sub_self, List.replicate_succ, List.set_cons_zero]
  simp
theorem headTo_step (n : Nat) {k : Nat} (hk : k < 8) : (headTo n k).set (1 + k) (UInt8.ofNat (n / 2 ^ (8 * (7 - k)))) = headTo n (k + 1) := by
  unfold headTo
  rw [Nat.add_comm 1 k, List.set_cons_succ]
  congr 1
  have hl : ((be8 n).take k).length = k := by rw [List.length_take, be8_len]; omega
  have h := set_mid ((be8 n).take k) (126 - k) 0 (UInt8.ofNat (n / 2 ^ (8 * (7 - k))))
  rw [hl, show 126 - k + 1 = 127 - k by omega] at h
  rw [h, List.take_add_one, be8_get n hk]
  simp only [Option.toList, show 127 - (k + 1) = 126 - k by omega]
theorem headTo_end (n s : Nat) : ((headTo n 8).set 9 (UInt8.ofNat (s / 256))).set 10 (UInt8.ofNat s) = headL n s ++ List.replicate 117 0 := by
  unfold headTo headL
  have hl : ((be8 n).take 8).length = 8 := by rw [List.length_take, be8_len]; rfl
  have e8 : (be8 n).take 8 = be8 n := List.take_of_length_le (by rw [be8_len]; exact Nat.le_refl _)
  rw [List.set_cons_succ, List.set_cons_succ, e8]
  have h1 := set_mid (be8 n) 118 0 (UInt8.ofNat (s / 256))
  rw [be8_len] at h1
  have h2 := set_mid (be8 n ++ [UInt8.ofNat (s / 256)]) 117 0 (UInt8.ofNat s)
  rw [List.length_append, be8_len] at h2
  rw [show 127 - 8 = 118 + 1 from rfl, h1]
  have h2' : (be8 n ++ [UInt8.ofNat (s / 256)] ++ List.replicate 118 0).set 9 (UInt8.ofNat s) = be8 n ++ [UInt8.ofNat (s / 256)] ++ [UInt8.ofNat s] ++ List.replicate 117 0 := h2
  rw [h2']
  simp
theorem u8_cast (m : Nat) : ((UInt8.ofNat m).toNat : Int) = (m : Int) % 256 := by
  rw [UInt8.toNat_ofNat']
  omega
theorem results_cell {fn : Func} {p : Tmp} {ty e : TypeId} {n : Nat} (h : fn.results = #[.cell p ty]) (tmps : Array Value) (P : Program) (w : World) (g : Nat) (t' : TypeId) (cs : Array Value) (fr : Nat × Nat)
    (hp : tmps.getD p undef = .pointer (some ⟨g, 0, none⟩)) (hg : w.heap[g]? = some (.cells cs t' fr))
    (hu : P.underlying ty = some (.array n e)) (hi : (P.info? ty).map (·.size) = some cs.size) :
    (results fn tmps).run P w = .ok (.agg cs) w := by
  have hp' : tmps[p]?.getD undef = .pointer (some ⟨g, 0, none⟩) := by simpa using hp
  have hl := run_loadVar_row (P := P) w g t' ty cs fr _ hg hu rfl hi
  simp [results, h, hp', asAddr, hl]
set_option maxRecDepth 20000 in
set_option maxHeartbeats 1000000 in
theorem begin_ok {n s : Nat} (hn : n ≤ 1000000) (hs : s ≤ 65535) (w : World) : Calls Try.prog 66 #[.int .i64 n, .int .i64 s] w fun r w' => r = .returned (.agg (bv (headL n s ++ List.replicate 117 0))) ∧ Below w.heap.size w w' := by
  have BB := fun W => run_buildK (build33_one 1 W)
  simp only [show (((1 : UInt8).toNat : Nat) : Int) = 1 from rfl] at BB
  have HZ1 := hid ((bv_size (oneB 1)).trans (oneB_len 1))
  have tok1 : True := trivial
  go_enter Try.func66, Try.ntmps66
  go_wp2_with (first | (have _t := tok1; refine wpList_alloc 33 rfl rfl (.agg (bv zeroB)) zero33 ?_; intro gr W1 hR hrl hrg hW1; have H1 := hid ((St.start w).newBlk hW1 hrg hR); clear hR hrl hrg hW1 tok1) | (refine wpList_alloc 33 rfl rfl (.agg (bv zeroB)) zero33 ?_; intro gb W2 hB hbl hbg hW2) | (refine wpList_store_box 33 _ _ rfl gb rfl rfl (bv (oneB 1)) rfl 128 size33 HZ1.out (bv_one _) 33 _ hB bvz ?_; intro W3 hB3 hT3 hs3; have H3 := hid ((H1.out.newBlk hW2 hbg hB).put hB3 hT3); clear hB3 hT3 hs3 hB hbl hbg hW2))
  go_loopw [8] (fun i X => ∃ k : Nat, k ≤ 8 ∧ i = .int .i64 k ∧ Hid (St w [Blk gb (bv (headTo n k)) 33, Blk gr (bv zeroB) 33] X)) (fun i _ => 8 - (intOf i).toNat)
  case atStart => exact ⟨0, by omega, rfl, H3⟩
  case round =>
    clear H1 H3
    obtain ⟨k, hk, rfl, HS⟩ := hrel
    by_cases h8 : k < 8
    · have e1 : (k : Int) < 8 := by omega
      have cg : wr.cell? ⟨gb, 1 + k, none⟩ = some (.int .u8 (bt (headTo n k) (1 + k))) := (blk_cell HS.out (1 + k)).trans (bv_get _ _ (by rw [headTo_len n hk]; omega))
      have fg : wr.frozen? ⟨gb, 1 + k, none⟩ = false := frozen_of_row wr gb (1 + k) _ _ HS.out.blk
      go_wp2_with fail
      go_roundw
      case rel =>
        refine ⟨k + 1, by omega, by go_num, hid ?_⟩
        have h := HS.out.setCell (1 + k) (.int .u8 ((UInt8.ofNat (n / 2 ^ (8 * (7 - k)))).toNat : Int))
        rw [bv_set, headTo_step n h8, u8_cast] at h
        simpa using h
      case measure => simp [intOf]; omega
    · have e1 : ¬ (k : Int) < 8 := by omega
      obtain rfl : k = 8 := by omega
      have cg9 : wr.cell? ⟨gb, 9, none⟩ = some (.int .u8 (bt (headTo n 8) 9)) := (blk_cell HS.out 9).trans (bv_get _ _ (by rw [headTo_len n hk]; omega))
      have cg10 : wr.cell? ⟨gb, 10, none⟩ = some (.int .u8 (bt (headTo n 8) 10)) := (blk_cell HS.out 10).trans (bv_get _ _ (by rw [headTo_len n hk]; omega))
      have fg9 : wr.frozen? ⟨gb, 9, none⟩ = false := frozen_of_row wr gb 9 _ _ HS.out.blk
      have fg10 : wr.frozen? ⟨gb, 10, none⟩ = false := frozen_of_row wr gb 10 _ _ HS.out.blk
      have h10 := (HS.out.setCell 9 (.int .u8 ((UInt8.ofNat (s / 256)).toNat : Int))).setCell 10 (.int .u8 ((UInt8.ofNat s).toNat : Int))
      rw [bv_set, bv_set, headTo_end, u8_cast, u8_cast, show ((s / 256 : Nat) : Int) % 256 = (s : Int) / 256 by omega] at h10
      have HL := hid (show (bv (headL n s ++ List.replicate 117 0)).size = 128 by rw [bv_size, List.length_append, headL_len, List.length_replicate])
      have LB : (loadK 33 (.pointer (some ⟨gb, 0, none⟩))).run Try.prog ((wr.setCell ⟨gb, 9, none⟩ (.int .u8 ((s : Int) / 256))).setCell ⟨gb, 10, none⟩ (.int .u8 ((s : Int) % 256))) = .ok (.value (.agg (bv (headL n s ++ List.replicate 117 0)))) _ := run_loadK_box h10.blk Try.underlying33 rfl size33 HL.out
      have H10 := hid h10
      clear h10
      go_wp2_with (refine wpList_store_box 33 _ _ rfl gr rfl rfl (bv (headL n s ++ List.replicate 117 0)) rfl 128 size33 HL.out (bv_one _) 33 _ H10.out.at2.blk bvz ?_; intro W5 hB5 hT5 hs5; have H5 := hid (H10.out.at2.put hB5 hT5))
      exact bodyPost_ret (results_cell rfl _ _ _ gr 33 (bv _) (0, 0) rfl hB5 Try.underlying33 (by rw [HL.out]; exact size33)) rfl ⟨rfl, H5.out.below⟩
end Go.Proofs.Ythmchbdhikakhaa
/- The builtin copy into a block that is known whole. -/
namespace Go.Cu
open Go Go.RowKit
theorem putAt_nil (cur : Array Value) (o : Nat) : putAt cur o [] = cur := by
  unfold putAt
  simp
theorem wpList_copyB {P : Program} {w : World} {ops : Array Oper} {rest : List Oper} {o : Oper} {a : Act} {Q : Exit → Act → World → Prop} (hw : Region.wanted o (yielded ops a.tmps) = true) (d s : Operand) (dT sT : TypeId)
    (ho : o.op = .call { callee := .builtin .copy, args := #[d, s], argTypes := #[dT, sT] }) (elem : TypeId) (hu : P.underlying dT = some (.slice elem)) (hsz : (P.info? elem).map (·.size) = some 1)
    (g off dLen dCap : Nat) (sp : Option Addr) (sLen sCap : Nat) (hd : a.eval d = .slice (some ⟨g, off, none⟩) dLen dCap) (hs : a.eval s = .slice sp sLen sCap)
    (cur : Array Value) (t : TypeId) (hg : w.heap[g]? = some (.cells cur t (0, 0))) (cs : List Value) (hn : cs.length = Nat.min sLen dLen)
    (hsrc : ∀ j v, cs[j]? = some v → ∃ ad, sp = some ad ∧ w.cell? (ad.add j) = some v) (hfit : off + cs.length ≤ cur.size) (h1 : ∀ v ∈ cs, v.oneCell' = true)
    (h : ∀ w' : World, w'.heap[g]? = some (.cells (putAt cur off cs) t (0, 0)) → Tch (· = g) w w' → wpList P ops Q rest (a.put o.dst (goInt cs.length)) w') : wpList P ops Q (o :: rest) a w := by
  refine wpList_wanted hw fun K hK => ?_
  match cs, hn, hsrc, hfit, h1, h with
  | [], hn, _, _, _, h =>
    have hrun := run_copy_none (P := P) w dT sT o.type elem (some ⟨g, off, none⟩) sp dLen dCap sLen sCap hu hsz (by simpa using hn.symm)
    have hz := hK _ _ (h w (by rw [putAt_nil]; exact hg) (Tch.refl _ _))
    unfold Oper.wp execOp
    simp only [ho, resolve, invoke, builtin, Sem.run_bind, Sem.run_pure, Result.andThen_ok, List.map_toArray, List.map_cons, List.map_nil, hd, hs, hrun]
    exact hz
  | c :: cs, hn, hsrc, hfit, h1, h =>
    obtain ⟨ad, rfl, _⟩ := hsrc 0 c rfl
    have hrun := run_copy_row (P := P) w dT sT o.type elem g off dLen dCap ad sLen sCap cur t (c :: cs) hu hsz hg hn (fun j v hj => by
      obtain ⟨ad', e, hc⟩ := hsrc j v hj
      cases e; exact hc) hfit h1
    have hz := hK _ _ (h _ (setRow_heap w g cur _ t _ hg) ⟨rfl, rfl, rfl, by simp, fun k _ hk => setRow_other w g k _ hk⟩)
    unfold Oper.wp execOp
    simp only [ho, resolve, invoke, builtin, Sem.run_bind, Sem.run_pure, Result.andThen_ok, List.map_toArray, List.map_cons, List.map_nil, hd, hs, hrun]
    exact hz
end Go.Cu
/- block: the blocks behind the head. -/
namespace Go.Proofs.Ythmchbdhikakhaa
open Go.RowKit Go.Cu
theorem putAt_bv (l m : List UInt8) (o : Nat) : putAt (bv l) o (bvL m) = bv (l.take o ++ m ++ l.drop (o + m.length)) := by
  unfold putAt
  rw [bv_toList, bvL_len]
  simp only [bv, bvL, List.map_append, List.map_take, List.map_drop]
theorem pre_put (h m : List UInt8) (hh : h.length = 11) (hm : m.length ≤ 117) : putAt (bv (h ++ List.replicate 117 0)) 11 (bvL m) = bv (h ++ padL m) := by
  rw [putAt_bv]
  congr 1
  rw [List.take_append_of_le_length (by omega), List.take_of_length_le (by omega), List.drop_append, List.drop_eq_nil_of_le (by omega), List.drop_replicate]
  unfold padL
  rw [hh, List.nil_append, show 117 - (11 + m.length - 11) = 117 - m.length by omega, List.append_assoc]
theorem chunk_get {k : Nat} {rec : List UInt8} {j : Nat} {v : Value} (h : (bvL (chunkL k rec))[j]? = some v) : ∃ b, rec[117 * k + j]? = some b ∧ v = .int .u8 b.toNat := by
  unfold bvL chunkL at h
  rw [List.getElem?_map, List.getElem?_take] at h
  split at h
  · rw [List.getElem?_drop] at h
    cases hb : rec[117 * k + j]? with
    | none => rw [hb] at h; cases h
    | some b => rw [hb] at h; exact ⟨b, rfl, (Option.some.inj h).symm⟩
  · cases h
theorem src_bytes {w X : World} {g o c0 k : Nat} {rec : List UInt8} (hr : BytesIn w (some ⟨g, o, none⟩) rec) (hb : Below w.heap.size w X) (hc0 : c0 = o + 117 * k) :
    ∀ (j : Nat) (v : Value), (bvL (chunkL k rec))[j]? = some v → ∃ ad, (some (⟨g, c0, none⟩ : Addr)) = some ad ∧ X.cell? (ad.add j) = some v := by
  intro j v hv
  obtain ⟨b, hb1, rfl⟩ := chunk_get hv
  obtain ⟨g', o', hA, hg, hcell⟩ := hr _ b hb1
  cases hA
  refine ⟨_, rfl, ?_⟩
  have e : (⟨g, c0, none⟩ : Addr).add j = ⟨g, o + (117 * k + j), none⟩ := by
    unfold Addr.add
    split
    · rename_i hz; subst hz hc0; simp
    · subst hc0; simp [Nat.add_assoc]
  rw [e, hb.cell (p := ⟨g, o + (117 * k + j), none⟩) hg]
  exact hcell
set_option maxRecDepth 20000 in
set_option maxHeartbeats 1000000 in
theorem block_rest {n k : Nat} {rec : List UInt8} {A : Option Addr} {c : Nat} {w : World} (hr : BytesIn w A rec) (hl : rec.length ≤ 65535) (hc : rec.length ≤ c) (hc2 : c ≤ maxLen) (hk : 1 ≤ k) (hk2 : 117 * k < rec.length) :
    Calls Try.prog 65 #[.int .i64 n, .int .i64 k, .slice A rec.length c] w fun r w' => r = .returned (.agg (bv (blockB n k rec))) ∧ Below w.heap.size w w' := by
  have BB := fun W => run_buildK (build33_one 2 W)
  simp only [show (((2 : UInt8).toNat : Nat) : Int) = 2 from rfl] at BB
  have HZ1 := hid ((bv_size (oneB 2)).trans (oneB_len 2))
  have tok1 : True := trivial
  unfold maxLen at hc2
  obtain ⟨b0, hb0⟩ : ∃ b, rec[0]? = some b := ⟨_, List.getElem?_eq_getElem (by omega)⟩
  obtain ⟨g, o, rfl, _, _⟩ := hr 0 b0 hb0
  have e1 : (k : Int) ≠ 0 := by omega
  have e2 : ((k : Int) == 0) = false := by rw [beq_eq_false_iff_ne]; exact e1
  have HR := hid hr
  clear hr hb0 e1
  go_enter Try.func65, Try.ntmps65
  go_wp2_with (first | (have _t := tok1; refine wpList_alloc 33 rfl rfl (.agg (bv zeroB)) zero33 ?_; intro gr W1 hR hrl hrg hW1; have H1 := hid ((St.start w).newBlk hW1 hrg hR); clear hR hrl hrg hW1 tok1) | (refine wpList_alloc 33 rfl rfl (.agg (bv zeroB)) zero33 ?_; intro gb W2 hB hbl hbg hW2) | (refine wpList_store_box 33 _ _ rfl gb rfl rfl (bv (oneB 2)) rfl 128 size33 HZ1.out (bv_one _) 33 _ hB bvz ?_; intro W3 hB3 hT3 hs3; have H3 := hid ((H1.out.newBlk hW2 hbg hB).put hB3 hT3); clear hB3 hT3 hs3 hB hbl hbg hW2))
  have HBL := hid (show blockB n k rec = restL ++ padL (chunkL k rec) by unfold blockB; rw [if_neg (by omega)])
  have HL := hid (show (bv (blockB n k rec)).size = 128 by rw [bv_size]; exact blockB_len n k rec)
  have hk0 : (0 : Int) ≤ 117 * (k : Int) := by omega
  by_cases hlast : (rec.length : Int) < 117 * (k : Int) + 117
  · have h1 : 117 * (k : Int) ≤ (rec.length : Int) := by omega
    have h2 : (rec.length : Int) ≤ (c : Int) := by omega
    have h3 : ¬ (c = 117 * k) := by omega
    refine wp_region_ord [11] [(0, 1), (1, 1), (2, 1), (3, 1), (4, 1), (5, 1), (6, 1), (7, 1), (8, 1), (9, 1), (10, 1), (11, 2)] (fun X => X = W3.drew) (by kernel_rfl) (by kernel_rfl) (fun d _ c _ _ h => by cases d <;> exact h) rfl (fun X hXe _ => ?_)
    subst hXe
    repeat (apply wpOrd_class; ((· first | (rw [List.getElem?_toArray, List.getElem?_cons_zero]; done) | (simp only [List.getElem?_toArray, List.getElem?_cons_succ, List.getElem?_cons_zero]; exact rfl))); (· exact rfl); intro K hK; apply Exists.intro; refine And.intro (fun X' hX' => ?_) ?_; (· go_simp; (try go_bits); first | done | exact rfl | exact ⟨rfl, rfl⟩); go_simp; refine hK _ _ ?_; clear hK K)
    (apply wpOrd_comes; ((· first | (rw [List.getElem?_toArray, List.getElem?_cons_zero]; done) | (simp only [List.getElem?_toArray, List.getElem?_cons_succ, List.getElem?_cons_zero]; exact rfl))); intro N hN)
    have H4 := hid (H3.out.turn (Below.drew (Below.refl _ _)))
    refine wpList_copyB rfl _ _ 22 22 rfl 5 Try.underlying22 be5.size gb 11 117 117 _ (rec.length - 117 * k) _ rfl rfl _ 33 H4.out.blk (bvL (chunkL k rec)) ?_ (src_bytes HR.out H4.out.below rfl) ?_ (bvL_one _) ?_
    · rw [bvL_len]; simp only [chunkL, List.length_take, List.length_drop]; show _ = min _ 117; omega
    · rw [bvL_len, bv_size, oneB_len]; have := chunkL_le k rec; omega
    intro W5 hW5 hT5
    rw [show oneB 2 = restL ++ List.replicate 117 0 from rfl, pre_put restL _ restL_len (chunkL_le _ _), ← HBL.out] at hW5
    have H5 := hid (H4.out.put hW5 hT5)
    refine hN _ _ (fun h => by cases h) (wpOrd_done ?_)
    clear hN N
    have LB : (loadK 33 (.pointer (some ⟨gb, 0, none⟩))).run Try.prog W5 = .ok (.value (.agg (bv (blockB n k rec)))) W5 := run_loadK_box hW5 Try.underlying33 rfl size33 HL.out
    go_wp2_with (refine wpList_store_box 33 _ _ rfl gr rfl rfl (bv (blockB n k rec)) rfl 128 size33 HL.out (bv_one _) 33 _ H5.out.at2.blk bvz ?_; intro W6 hB6 hT6 hs6; have H6 := hid (H5.out.at2.put hB6 hT6))
    exact bodyPost_ret (results_cell rfl _ _ _ gr 33 (bv _) (0, 0) rfl hB6 Try.underlying33 (by rw [HL.out]; exact size33)) rfl ⟨rfl, H6.out.below⟩

  · have h1 : 117 * (k : Int) ≤ 117 * (k : Int) + 117 := by omega
    have h2 : 117 * (k : Int) + 117 ≤ (c : Int) := by omega
    have h3 : ¬ (c = 117 * k) := by omega
    refine wp_region_ord [11] [(0, 1), (1, 1), (2, 1), (3, 1), (4, 1), (5, 1), (6, 1), (7, 1), (8, 1), (9, 1), (10, 1), (11, 2)] (fun X => X = W3.drew) (by kernel_rfl) (by kernel_rfl) (fun d _ c _ _ h => by cases d <;> exact h) rfl (fun X hXe _ => ?_)
    subst hXe
    repeat (apply wpOrd_class; ((· first | (rw [List.getElem?_toArray, List.getElem?_cons_zero]; done) | (simp only [List.getElem?_toArray, List.getElem?_cons_succ, List.getElem?_cons_zero]; exact rfl))); (· exact rfl); intro K hK; apply Exists.intro; refine And.intro (fun X' hX' => ?_) ?_; (· go_simp; (try go_bits); first | done | exact rfl | exact ⟨rfl, rfl⟩); go_simp; refine hK _ _ ?_; clear hK K)
    (apply wpOrd_comes; ((· first | (rw [List.getElem?_toArray, List.getElem?_cons_zero]; done) | (simp only [List.getElem?_toArray, List.getElem?_cons_succ, List.getElem?_cons_zero]; exact rfl))); intro N hN)
    have H4 := hid (H3.out.turn (Below.drew (Below.refl _ _)))
    refine wpList_copyB rfl _ _ 22 22 rfl 5 Try.underlying22 be5.size gb 11 117 117 _ 117 _ rfl rfl _ 33 H4.out.blk (bvL (chunkL k rec)) ?_ (src_bytes HR.out H4.out.below rfl) ?_ (bvL_one _) ?_
    · rw [bvL_len]; simp only [chunkL, List.length_take, List.length_drop]; show _ = min _ 117; omega
    · rw [bvL_len, bv_size, oneB_len]; have := chunkL_le k rec; omega
    intro W5 hW5 hT5
    rw [show oneB 2 = restL ++ List.replicate 117 0 from rfl, pre_put restL _ restL_len (chunkL_le _ _), ← HBL.out] at hW5
    have H5 := hid (H4.out.put hW5 hT5)
    refine hN _ _ (fun h => by cases h) (wpOrd_done ?_)
    clear hN N
    have LB : (loadK 33 (.pointer (some ⟨gb, 0, none⟩))).run Try.prog W5 = .ok (.value (.agg (bv (blockB n k rec)))) W5 := run_loadK_box hW5 Try.underlying33 rfl size33 HL.out
    go_wp2_with (refine wpList_store_box 33 _ _ rfl gr rfl rfl (bv (blockB n k rec)) rfl 128 size33 HL.out (bv_one _) 33 _ H5.out.at2.blk bvz ?_; intro W6 hB6 hT6 hs6; have H6 := hid (H5.out.at2.put hB6 hT6))
    exact bodyPost_ret (results_cell rfl _ _ _ gr 33 (bv _) (0, 0) rfl hB6 Try.underlying33 (by rw [HL.out]; exact size33)) rfl ⟨rfl, H6.out.below⟩

end Go.Proofs.Ythmchbdhikakhaa
/- block: the head. -/
namespace Go.Proofs.Ythmchbdhikakhaa
open Go.RowKit Go.Cu
/-- A head, filled up with noughts. -/
def headZ (n s : Nat) : Bk := headL n s ++ List.replicate 117 0
theorem headZ_len (n s : Nat) : (headZ n s).length = 128 := by unfold headZ; rw [List.length_append, headL_len, List.length_replicate]
set_option maxRecDepth 20000 in
set_option maxHeartbeats 2000000 in
theorem block_head {n : Nat} {rec : List UInt8} {A : Option Addr} {c : Nat} {w : World} (hr : BytesIn w A rec) (hn : n ≤ 1000000) (hl : rec.length ≤ 65535) (hc : rec.length ≤ c) (hc2 : c ≤ maxLen) :
    Calls Try.prog 65 #[.int .i64 n, .int .i64 0, .slice A rec.length c] w fun r w' => r = .returned (.agg (bv (blockB n 0 rec))) ∧ Below w.heap.size w w' := by
  have BB := fun W => run_buildK (build33_one 2 W)
  simp only [show (((2 : UInt8).toNat : Nat) : Int) = 2 from rfl] at BB
  have HZ1 := hid ((bv_size (oneB 2)).trans (oneB_len 2))
  have HBL := hid (show blockB n 0 rec = headL n rec.length ++ padL (chunkL 0 rec) by unfold blockB; rw [if_pos rfl])
  have HL := hid (show (bv (blockB n 0 rec)).size = 128 by rw [bv_size]; exact blockB_len n 0 rec)
  unfold maxLen at hc2
  have HR := hid hr
  clear hr
  by_cases h0 : rec.length = 0
  · obtain rfl : rec = [] := List.eq_nil_of_length_eq_zero h0
    have HBG := hid (show ∀ X, Calls Try.prog 66 #[.int .i64 n, .int .i64 0] X fun r w' => r = .returned (.agg (bv (headZ n 0))) ∧ Below X.heap.size X w' from fun X => begin_ok (s := 0) hn (by decide) X)
    have HHZ := hid ((bv_size (headZ n 0)).trans (headZ_len n 0))
    clear h0 hl
    have tok1 : True := trivial
    have tok2 : True := trivial
    go_enter Try.func65, Try.ntmps65
    go_wp2_with (first | (have _t := tok1; refine wpList_alloc 33 rfl rfl (.agg (bv zeroB)) zero33 ?_; intro gr W1 hR hrl hrg hW1; have H1 := hid ((St.start w).newBlk hW1 hrg hR); clear hR hrl hrg hW1 tok1) | (refine wpList_alloc 33 rfl rfl (.agg (bv zeroB)) zero33 ?_; intro gb W2 hB hbl hbg hW2) | (have _t := tok2; refine wpList_store_box 33 _ _ rfl gb rfl rfl (bv (oneB 2)) rfl 128 size33 HZ1.out (bv_one _) 33 _ hB bvz ?_; intro W3 hB3 hT3 hs3; have H3 := hid ((H1.out.newBlk hW2 hbg hB).put hB3 hT3); clear hB3 hT3 hs3 hB hbl hbg hW2 tok2) | (go_at_call 66; (with_reducible refine (HBG.out _).mono ?_); rintro r W4 ⟨rfl, hb4⟩; have H4 := hid (H3.out.turn hb4); clear hb4) | (refine wpList_store_box 33 _ _ rfl gb rfl rfl (bv (headZ n 0)) rfl 128 size33 HHZ.out (bv_one _) 33 _ H4.out.blk HZ1.out ?_; intro W5 hB5 hT5 hs5; have H5 := hid (H4.out.put hB5 hT5); clear hB5 hT5 hs5))
    refine wp_region_ord [11] [(0, 1), (1, 1), (2, 1), (3, 1), (4, 1), (5, 1), (6, 1), (7, 1), (8, 1), (9, 1), (10, 1), (11, 2)] (fun X => X = W5.drew) (by kernel_rfl) (by kernel_rfl) (fun d _ c _ _ h => by cases d <;> exact h) rfl (fun X hXe _ => ?_)
    subst hXe
    repeat (apply wpOrd_class; ((· first | (rw [List.getElem?_toArray, List.getElem?_cons_zero]; done) | (simp only [List.getElem?_toArray, List.getElem?_cons_succ, List.getElem?_cons_zero]; exact rfl))); (· exact rfl); intro K hK; apply Exists.intro; refine And.intro (fun X' hX' => ?_) ?_; (· go_simp; (try go_bits); first | done | exact rfl | exact ⟨rfl, rfl⟩); go_simp; refine hK _ _ ?_; clear hK K)
    (apply wpOrd_comes; ((· first | (rw [List.getElem?_toArray, List.getElem?_cons_zero]; done) | (simp only [List.getElem?_toArray, List.getElem?_cons_succ, List.getElem?_cons_zero]; exact rfl))); intro N hN)
    have H6 := hid (H5.out.turn (Below.drew (Below.refl _ _)))
    refine wpList_copyB rfl _ _ 22 22 rfl 5 Try.underlying22 be5.size gb 11 117 117 _ 0 _ rfl rfl _ 33 H6.out.blk (bvL (chunkL 0 [])) ?_ (fun j v hj => by simp [chunkL, bvL] at hj) ?_ (bvL_one _) ?_
    · rw [bvL_len]; simp only [chunkL, List.length_take, List.length_drop]; show _ = min _ 117; first | omega | simp
    · rw [bvL_len, HHZ.out]; have := chunkL_le 0 []; omega
    intro W7 hW7 hT7
    unfold headZ at hW7
    rw [pre_put (headL n 0) _ (headL_len _ _) (chunkL_le _ _)] at hW7
    replace hW7 := hW7.trans (congrArg (fun l => some (Obj.cells (bv l) 33 (0, 0))) HBL.out.symm)
    have H7 := hid (H6.out.put hW7 hT7)
    refine hN _ _ (fun h => by cases h) (wpOrd_done ?_)
    clear hN N
    have LB : (loadK 33 (.pointer (some ⟨gb, 0, none⟩))).run Try.prog W7 = .ok (.value (.agg (bv (blockB n 0 [])))) W7 := run_loadK_box hW7 Try.underlying33 rfl size33 HL.out
    go_wp2_with (refine wpList_store_box 33 _ _ rfl gr rfl rfl (bv (blockB n 0 [])) rfl 128 size33 HL.out (bv_one _) 33 _ H7.out.at2.blk bvz ?_; intro W8 hB8 hT8 hs8; have H8 := hid (H7.out.at2.put hB8 hT8))
    exact bodyPost_ret (results_cell rfl _ _ _ gr 33 (bv _) (0, 0) rfl hB8 Try.underlying33 (by rw [HL.out]; exact size33)) rfl ⟨rfl, H8.out.below⟩
  · obtain ⟨b0, hb0⟩ : ∃ b, rec[0]? = some b := ⟨_, List.getElem?_eq_getElem (by omega)⟩
    obtain ⟨g, o, rfl, _, _⟩ := HR.out 0 b0 hb0
    clear hb0
    have h3 : ¬ c = 0 := by omega
    have HBG := hid (show ∀ X, Calls Try.prog 66 #[.int .i64 n, .int .i64 rec.length] X fun r w' => r = .returned (.agg (bv (headZ n rec.length))) ∧ Below X.heap.size X w' from fun X => begin_ok hn hl X)
    have HHZ := hid ((bv_size (headZ n rec.length)).trans (headZ_len n rec.length))
    by_cases hlast : (rec.length : Int) < 117
    · have h2 : (rec.length : Int) ≤ (c : Int) := by omega
      have tok1 : True := trivial
      have tok2 : True := trivial
      go_enter Try.func65, Try.ntmps65
      go_wp2_with (first | (have _t := tok1; refine wpList_alloc 33 rfl rfl (.agg (bv zeroB)) zero33 ?_; intro gr W1 hR hrl hrg hW1; have H1 := hid ((St.start w).newBlk hW1 hrg hR); clear hR hrl hrg hW1 tok1) | (refine wpList_alloc 33 rfl rfl (.agg (bv zeroB)) zero33 ?_; intro gb W2 hB hbl hbg hW2) | (have _t := tok2; refine wpList_store_box 33 _ _ rfl gb rfl rfl (bv (oneB 2)) rfl 128 size33 HZ1.out (bv_one _) 33 _ hB bvz ?_; intro W3 hB3 hT3 hs3; have H3 := hid ((H1.out.newBlk hW2 hbg hB).put hB3 hT3); clear hB3 hT3 hs3 hB hbl hbg hW2 tok2) | (go_at_call 66; (with_reducible refine (HBG.out _).mono ?_); rintro r W4 ⟨rfl, hb4⟩; have H4 := hid (H3.out.turn hb4); clear hb4) | (refine wpList_store_box 33 _ _ rfl gb rfl rfl (bv (headZ n rec.length)) rfl 128 size33 HHZ.out (bv_one _) 33 _ H4.out.blk HZ1.out ?_; intro W5 hB5 hT5 hs5; have H5 := hid (H4.out.put hB5 hT5); clear hB5 hT5 hs5))
      refine wp_region_ord [11] [(0, 1), (1, 1), (2, 1), (3, 1), (4, 1), (5, 1), (6, 1), (7, 1), (8, 1), (9, 1), (10, 1), (11, 2)] (fun X => X = W5.drew) (by kernel_rfl) (by kernel_rfl) (fun d _ c _ _ h => by cases d <;> exact h) rfl (fun X hXe _ => ?_)
      subst hXe
      repeat (apply wpOrd_class; ((· first | (rw [List.getElem?_toArray, List.getElem?_cons_zero]; done) | (simp only [List.getElem?_toArray, List.getElem?_cons_succ, List.getElem?_cons_zero]; exact rfl))); (· exact rfl); intro K hK; apply Exists.intro; refine And.intro (fun X' hX' => ?_) ?_; (· go_simp; (try go_bits); first | done | exact rfl | exact ⟨rfl, rfl⟩); go_simp; refine hK _ _ ?_; clear hK K)
      (apply wpOrd_comes; ((· first | (rw [List.getElem?_toArray, List.getElem?_cons_zero]; done) | (simp only [List.getElem?_toArray, List.getElem?_cons_succ, List.getElem?_cons_zero]; exact rfl))); intro N hN)
      have H6 := hid (H5.out.turn (Below.drew (Below.refl _ _)))
      refine wpList_copyB rfl _ _ 22 22 rfl 5 Try.underlying22 be5.size gb 11 117 117 _ rec.length _ rfl rfl _ 33 H6.out.blk (bvL (chunkL 0 rec)) ?_ (src_bytes HR.out H6.out.below rfl) ?_ (bvL_one _) ?_
      · rw [bvL_len]; simp only [chunkL, List.length_take, List.length_drop]; show _ = min _ 117; first | omega | simp
      · rw [bvL_len, HHZ.out]; have := chunkL_le 0 rec; omega
      intro W7 hW7 hT7
      unfold headZ at hW7
      rw [pre_put (headL n rec.length) _ (headL_len _ _) (chunkL_le _ _)] at hW7
      replace hW7 := hW7.trans (congrArg (fun l => some (Obj.cells (bv l) 33 (0, 0))) HBL.out.symm)
      have H7 := hid (H6.out.put hW7 hT7)
      refine hN _ _ (fun h => by cases h) (wpOrd_done ?_)
      clear hN N
      have LB : (loadK 33 (.pointer (some ⟨gb, 0, none⟩))).run Try.prog W7 = .ok (.value (.agg (bv (blockB n 0 rec)))) W7 := run_loadK_box hW7 Try.underlying33 rfl size33 HL.out
      go_wp2_with (refine wpList_store_box 33 _ _ rfl gr rfl rfl (bv (blockB n 0 rec)) rfl 128 size33 HL.out (bv_one _) 33 _ H7.out.at2.blk bvz ?_; intro W8 hB8 hT8 hs8; have H8 := hid (H7.out.at2.put hB8 hT8))
      exact bodyPost_ret (results_cell rfl _ _ _ gr 33 (bv _) (0, 0) rfl hB8 Try.underlying33 (by rw [HL.out]; exact size33)) rfl ⟨rfl, H8.out.below⟩
    · have h2 : (117 : Int) ≤ (c : Int) := by omega
      have h2n : 117 ≤ c := by omega
      have h2m : ¬ c < 117 := by omega
      have HD := hid (show ((rec.length : Int) < 117) = False by simp; omega)
      have tok1 : True := trivial
      have tok2 : True := trivial
      go_enter Try.func65, Try.ntmps65
      go_wp2_with (first | (have _t := tok1; refine wpList_alloc 33 rfl rfl (.agg (bv zeroB)) zero33 ?_; intro gr W1 hR hrl hrg hW1; have H1 := hid ((St.start w).newBlk hW1 hrg hR); clear hR hrl hrg hW1 tok1) | (refine wpList_alloc 33 rfl rfl (.agg (bv zeroB)) zero33 ?_; intro gb W2 hB hbl hbg hW2) | (have _t := tok2; refine wpList_store_box 33 _ _ rfl gb rfl rfl (bv (oneB 2)) rfl 128 size33 HZ1.out (bv_one _) 33 _ hB bvz ?_; intro W3 hB3 hT3 hs3; have H3 := hid ((H1.out.newBlk hW2 hbg hB).put hB3 hT3); clear hB3 hT3 hs3 hB hbl hbg hW2 tok2) | (go_at_call 66; (with_reducible refine (HBG.out _).mono ?_); rintro r W4 ⟨rfl, hb4⟩; have H4 := hid (H3.out.turn hb4); clear hb4) | (refine wpList_store_box 33 _ _ rfl gb rfl rfl (bv (headZ n rec.length)) rfl 128 size33 HHZ.out (bv_one _) 33 _ H4.out.blk HZ1.out ?_; intro W5 hB5 hT5 hs5; have H5 := hid (H4.out.put hB5 hT5); clear hB5 hT5 hs5))
      refine wp_region_ord [11] [(0, 1), (1, 1), (2, 1), (3, 1), (4, 1), (5, 1), (6, 1), (7, 1), (8, 1), (9, 1), (10, 1), (11, 2)] (fun X => X = W5.drew) (by kernel_rfl) (by kernel_rfl) (fun d _ c _ _ h => by cases d <;> exact h) rfl (fun X hXe _ => ?_)
      subst hXe
      have hdd := HD.out
      repeat (apply wpOrd_class; ((· first | (rw [List.getElem?_toArray, List.getElem?_cons_zero]; done) | (simp only [List.getElem?_toArray, List.getElem?_cons_succ, List.getElem?_cons_zero]; exact rfl))); (· exact rfl); intro K hK; apply Exists.intro; refine And.intro (fun X' hX' => ?_) ?_; (· go_simp; (try go_bits); first | done | exact rfl | exact ⟨rfl, rfl⟩); go_simp; refine hK _ _ ?_; clear hK K)
      (apply wpOrd_comes; ((· first | (rw [List.getElem?_toArray, List.getElem?_cons_zero]; done) | (simp only [List.getElem?_toArray, List.getElem?_cons_succ, List.getElem?_cons_zero]; exact rfl))); intro N hN)
      have H6 := hid (H5.out.turn (Below.drew (Below.refl _ _)))
      refine wpList_copyB rfl _ _ 22 22 rfl 5 Try.underlying22 be5.size gb 11 117 117 _ 117 _ rfl rfl _ 33 H6.out.blk (bvL (chunkL 0 rec)) ?_ (src_bytes HR.out H6.out.below rfl) ?_ (bvL_one _) ?_
      · rw [bvL_len]; simp only [chunkL, List.length_take, List.length_drop]; show _ = min _ 117; first | omega | simp
      · rw [bvL_len, HHZ.out]; have := chunkL_le 0 rec; omega
      intro W7 hW7 hT7
      unfold headZ at hW7
      rw [pre_put (headL n rec.length) _ (headL_len _ _) (chunkL_le _ _)] at hW7
      replace hW7 := hW7.trans (congrArg (fun l => some (Obj.cells (bv l) 33 (0, 0))) HBL.out.symm)
      have H7 := hid (H6.out.put hW7 hT7)
      refine hN _ _ (fun h => by cases h) (wpOrd_done ?_)
      clear hN N
      have LB : (loadK 33 (.pointer (some ⟨gb, 0, none⟩))).run Try.prog W7 = .ok (.value (.agg (bv (blockB n 0 rec)))) W7 := run_loadK_box hW7 Try.underlying33 rfl size33 HL.out
      go_wp2_with (refine wpList_store_box 33 _ _ rfl gr rfl rfl (bv (blockB n 0 rec)) rfl 128 size33 HL.out (bv_one _) 33 _ H7.out.at2.blk bvz ?_; intro W8 hB8 hT8 hs8; have H8 := hid (H7.out.at2.put hB8 hT8))
      exact bodyPost_ret (results_cell rfl _ _ _ gr 33 (bv _) (0, 0) rfl hB8 Try.underlying33 (by rw [HL.out]; exact size33)) rfl ⟨rfl, H8.out.below⟩
theorem block_any {n k : Nat} {rec : List UInt8} {A : Option Addr} {c : Nat} {w : World} (hr : BytesIn w A rec) (hn : n ≤ 1000000) (hl : rec.length ≤ 65535) (hc : rec.length ≤ c) (hc2 : c ≤ maxLen) (hk : k < blocksN rec.length) :
    Calls Try.prog 65 #[.int .i64 n, .int .i64 k, .slice A rec.length c] w fun r w' => r = .returned (.agg (bv (blockB n k rec))) ∧ Below w.heap.size w w' := by
  by_cases h : k = 0
  · subst h
    exact block_head hr hn hl hc hc2
  · exact block_rest hr hl hc hc2 (by omega) (by unfold blocksN at hk; omega)
end Go.Proofs.Ythmchbdhikakhaa
/- Format. -/
namespace Go.Proofs.Ythmchbdhikakhaa
open Go.RowKit Go.Cu
section
variable {W0 W : World} {L : List Atm} {p : Nat} {S : DS} {N : Nat}
theorem format_nil (f s : Int) (w : World) : Calls Try.prog 41 #[.pointer none, .int .i64 f, .int .i64 s] w fun r w' => r = .returned (.int .i64 1) ∧ w = w' := by
  go_enter Try.func41, Try.ntmps41
  go_wp2_with (go_at_call 62; (with_reducible refine (fits_nil _ _ _).mono ?_); rintro r w1 ⟨rfl, rfl⟩)
  go_ret
  exact ⟨rfl, rfl⟩
theorem format_bad (h : St W0 (Disk p S :: L) W) (hok : S.Ok N) {f s n : Int} (hn : n = S.now.length) (hb : ¬ fitsI n f s) :
    Calls Try.prog 41 #[.pointer (some ⟨p, 0, none⟩), .int .i64 f, .int .i64 s] W fun r w' => r = .returned (.int .i64 1) ∧ W = w' := by
  have HF := hid (fits_bad h hok hn hb)
  clear h hok hn hb
  go_enter Try.func41, Try.ntmps41
  go_wp2_with (go_at_call 62; (with_reducible refine HF.out.mono ?_); rintro r w1 ⟨rfl, rfl⟩)
  go_ret
  exact ⟨rfl, rfl⟩
set_option maxRecDepth 20000 in
set_option maxHeartbeats 2000000 in
theorem format_ok (h : St W0 (Disk p S :: L) W) (hok : S.Ok N) {first size : Nat} (h1 : 1 ≤ size) (h2 : first + size ≤ S.now.length) (hN : N + size ≤ 1000000) :
    Calls Try.prog 41 #[.pointer (some ⟨p, 0, none⟩), .int .i64 first, .int .i64 size] W fun r w' => r = .returned (.int .i64 (S.wipe size first).2) ∧ St W0 (Disk p (S.wipe size first).1 :: L) w' := by
  have HF := hid (fits_ok (f := first) (s := size) h hok rfl ⟨by omega, by omega, by omega, by omega⟩)
  have hbig := hok.big
  have HH := hid h
  have HOK := hid hok
  obtain ⟨R, hR⟩ : ∃ R, R = S.wipe size first := ⟨_, rfl⟩
  rw [← hR]
  have HR := hid hR
  have BZ := fun W => run_buildK (build33 W)
  clear h hok hR
  go_enter Try.func41, Try.ntmps41
  go_wp2_with (go_at_call 62; (with_reducible refine HF.out.mono ?_); rintro r w1 ⟨rfl, rfl⟩)
  go_loopw [15] (fun v X => ∃ k : Nat, k ≤ size ∧ v = .int .i64 k ∧ ∃ T : DS, Hid (T.wipe (size - k) (first + k) = R) ∧ Hid (T.Ok (N + k)) ∧ Hid (St W0 (Disk p T :: L) X)) (fun v _ => size - (intOf v).toNat)
  case atStart => exact ⟨0, by omega, rfl, S, hid HR.out.symm, HOK, HH⟩
  case round =>
    clear HH
    obtain ⟨k, hk, rfl, T, HZ, HTO, HS⟩ := hrel
    by_cases hlt : k < size
    · have e1 : (k : Int) < (size : Int) := by omega
      obtain ⟨m, hm⟩ : ∃ m, size - k = m + 1 := ⟨size - k - 1, by omega⟩
      rw [hm] at HZ
      have HM := hid (show size - (k + 1) = m by omega)
      obtain ⟨pk, hpk⟩ : ∃ pk : Nat, pk = first + k := ⟨_, rfl⟩
      have epk : (first : Int) + (k : Int) = (pk : Int) := by omega
      rw [← hpk] at HZ
      have HPK2 := hid (show pk + 1 = first + (k + 1) by omega)
      clear hpk hm
      by_cases ha : (T.write (pk : Int) zeroB).2 = 0
      · have HA0 := hid ha
        have HW := hid (show ∀ X, St W0 (Disk p T :: L) X → Calls Try.prog 15 #[.pointer (some ⟨p, 0, none⟩), .int .i64 pk, .agg (bv zeroB)] X fun r X' => r = .returned (.int .i64 0) ∧ St W0 (Disk p (T.write (pk : Int) zeroB).1 :: L) X' from fun X h => (write_st h HTO.out (by omega) _ zeroB_len).mono fun r X' hx => ⟨by rw [hx.1, ha], hx.2⟩)
        clear ha
        go_wp2_with (go_at_call 15; (with_reducible refine (HW.out _ HS.out).mono ?_); rintro r w2 ⟨rfl, hs2⟩; have H2 := hid hs2; clear hs2)
        go_roundw
        case rel => exact ⟨k + 1, by omega, by go_num, (T.write (pk : Int) zeroB).1, hid (by rw [HM.out, ← HPK2.out]; have := HZ.out; rw [wipe_go HA0.out] at this; exact this), hid (HTO.out.write _ zeroB_len), H2⟩
        case measure => simp [intOf]; omega
      · have HA0 := hid ha
        obtain ⟨e, he⟩ : ∃ e, e = (T.write (pk : Int) zeroB).2 := ⟨_, rfl⟩
        rw [← he] at ha
        have hne : (e != 0) = true := by simpa using ha
        have HW := hid (show ∀ X, St W0 (Disk p T :: L) X → Calls Try.prog 15 #[.pointer (some ⟨p, 0, none⟩), .int .i64 pk, .agg (bv zeroB)] X fun r X' => r = .returned (.int .i64 e) ∧ St W0 (Disk p (T.write (pk : Int) zeroB).1 :: L) X' from fun X h => (write_st h HTO.out (by omega) _ zeroB_len).mono fun r X' hx => ⟨by rw [hx.1, he], hx.2⟩)
        have HE := hid he
        clear ha he
        go_wp2_with (go_at_call 15; (with_reducible refine (HW.out _ HS.out).mono ?_); rintro r w2 ⟨rfl, hs2⟩; have H2 := hid hs2; clear hs2)
        go_ret
        have hz := HZ.out
        rw [wipe_stop HA0.out] at hz
        rw [← hz, HE.out]
        exact ⟨rfl, H2.out⟩
    · have e1 : ¬ (k : Int) < (size : Int) := by omega
      have HE := hid (show T.sync = R by have := HZ.out; rw [show size - k = 0 by omega] at this; exact this)
      go_wp2_with (go_at_call 16; (with_reducible refine (sync_st HS.out HTO.out (by omega)).mono ?_); rintro r w2 ⟨rfl, hs2⟩; have H2 := hid hs2; clear hs2)
      go_ret
      have h5 := H2.out
      rw [HE.out] at h5 ⊢
      exact ⟨rfl, h5⟩
end
end Go.Proofs.Ythmchbdhikakhaa
/- The blocks behind the head are written. -/
namespace Go.Proofs.Ythmchbdhikakhaa
open Go.RowKit Go.Cu
/-- The cells of a journal. -/
def jourV (p : Nat) (J : Jn) : Array Value := #[.pointer (some ⟨p, 0, none⟩), .int .i64 J.first, .int .i64 J.size, .int .i64 J.used, .int .i64 J.n]
theorem jour_cells {W : World} {j p : Nat} {J : Jn} (h : W.heap[j]? = some (.cells (jourV p J) 114 (0, 0))) :
    W.cell? ⟨j, 0, none⟩ = some (.pointer (some ⟨p, 0, none⟩)) ∧ W.cell? ⟨j, 1, none⟩ = some (.int .i64 J.first) ∧ W.cell? ⟨j, 2, none⟩ = some (.int .i64 J.size) ∧ W.cell? ⟨j, 3, none⟩ = some (.int .i64 J.used) ∧ W.cell? ⟨j, 4, none⟩ = some (.int .i64 J.n) :=
  ⟨(cell_of_row W j 0 _ _ _ h).trans rfl, (cell_of_row W j 1 _ _ _ h).trans rfl, (cell_of_row W j 2 _ _ _ h).trans rfl, (cell_of_row W j 3 _ _ _ h).trans rfl, (cell_of_row W j 4 _ _ _ h).trans rfl⟩
structure _root_.Go.Cu.Jn.Ok (J : Jn) (n : Nat) : Prop where
  fits : J.first + J.size ≤ n
  used : J.used ≤ J.size
  few : J.n ≤ J.used
  big : n ≤ 8192
section
variable {W0 W : World} {L : List Atm} {p j : Nat} {S : DS} {N : Nat} {J : Jn}
set_option maxRecDepth 20000 in
set_option maxHeartbeats 4000000 in
theorem tail_st (h : St W0 (Disk p S :: Blk j (jourV p J) 114 :: L) W) (hok : S.Ok N) (hJ : J.Ok S.now.length) (hN : N + 600 ≤ 1000000) {rec : List UInt8} {A : Option Addr} {c : Nat} (hrec : ∀ X, St W0 L X → BytesIn X A rec) (hl : rec.length ≤ 65535) (hc : rec.length ≤ c) (hc2 : c ≤ maxLen) :
    Calls Try.prog 64 #[.pointer (some ⟨j, 0, none⟩), .slice A rec.length c] W fun r w' => r = .returned (.int .i64 (S.tailA J rec).2) ∧ St W0 (Disk p (S.tailA J rec).1 :: Blk j (jourV p J) 114 :: L) w' := by
  obtain ⟨nb, hnb⟩ : ∃ nb, nb = blocksN rec.length := ⟨_, rfl⟩
  have HBK := hid (fun X => (blocks_any (rec.length : Int) X).mono (fun r w' hx => (⟨by rw [hx.1, blocksI_nat hl, ← hnb], hx.2⟩ : r = .returned (.int .i64 nb) ∧ X = w')))
  have hnb1 : 1 ≤ nb := by rw [hnb]; exact blocksN_pos _
  have hnb2 : nb ≤ 561 := by rw [hnb]; exact blocksN_le hl
  have h1 := hJ.fits
  have h2 := hJ.used
  have h3 := hJ.few
  have h4 := hJ.big
  have HNB := hid hnb
  have HH := hid h
  have HOK := hid hok
  have HBL := hid (fun (k : Nat) (X : World) (hk : k < nb) (hX : St W0 L X) => block_any (n := J.n) (k := k) (hrec X hX) (by omega) hl hc hc2 (by rw [← hnb]; exact hk))
  obtain ⟨R, hR⟩ : ∃ R, R = S.tailS J rec (nb - 1) 1 := ⟨_, rfl⟩
  have HTA := hid (show S.tailA J rec = if R.2 ≠ 0 then R else if nb = 1 then (R.1, 0) else R.1.sync by rw [hR, hnb]; rfl)
  have HR := hid hR
  clear h hok hJ hrec hnb hR hc hc2
  go_enter Try.func64, Try.ntmps64
  go_wp2_with (go_at_call 48; (with_reducible refine (HBK.out _).mono ?_); rintro r w1 ⟨rfl, rfl⟩)
  go_loopw [6] (fun v X => ∃ k : Nat, 1 ≤ k ∧ k ≤ nb ∧ v = .int .i64 k ∧ ∃ T : DS, Hid (T.tailS J rec (nb - k) k = R) ∧ Hid (T.Ok (N + k)) ∧ Hid (St W0 (Disk p T :: Blk j (jourV p J) 114 :: L) X)) (fun v _ => nb - (intOf v).toNat)
  case atStart => exact ⟨1, by omega, by omega, rfl, S, hid HR.out.symm, hid (HOK.out.mono (by omega)), HH⟩
  case round =>
    clear HH
    obtain ⟨k, hk1, hk2, rfl, T, HZ, HTO, HS⟩ := hrel
    by_cases hlt : k < nb
    · have e1 : (k : Int) < (nb : Int) := by omega
      obtain ⟨m, hm⟩ : ∃ m, nb - k = m + 1 := ⟨nb - k - 1, by omega⟩
      rw [hm] at HZ
      have HM := hid (show nb - (k + 1) = m by omega)
      obtain ⟨pk, hpk⟩ : ∃ pk : Nat, pk = J.first + J.used + k := ⟨_, rfl⟩
      have epk : (J.first : Int) + (J.used : Int) + (k : Int) = (pk : Int) := by omega
      have HPK := hid hpk
      clear hm hpk
      by_cases ha : (T.write (pk : Int) (blockB J.n k rec)).2 = 0
      · have HA0 := hid ha
        have HW := hid (show ∀ X, St W0 (Disk p T :: Blk j (jourV p J) 114 :: L) X → Calls Try.prog 15 #[.pointer (some ⟨p, 0, none⟩), .int .i64 pk, .agg (bv (blockB J.n k rec))] X fun r X' => r = .returned (.int .i64 0) ∧ St W0 (Disk p (T.write (pk : Int) (blockB J.n k rec)).1 :: Blk j (jourV p J) 114 :: L) X' from fun X h => (write_st h HTO.out (by omega) _ (blockB_len _ _ _)).mono fun r X' hx => ⟨by rw [hx.1, ha], hx.2⟩)
        clear ha
        go_wp2_with fail
        refine wp_region_ord [22, 23] [(0, 1), (1, 1), (2, 1), (3, 1), (4, 1), (5, 1), (6, 1), (7, 1), (8, 1), (9, 1), (10, 1), (11, 1), (12, 1), (13, 1), (14, 1), (15, 1), (16, 1), (17, 1), (18, 1), (19, 1), (20, 1), (21, 2), (22, 2), (23, 0)] (fun X => St W0 (Disk p T :: Blk j (jourV p J) 114 :: L) X) (by kernel_rfl) (by kernel_rfl) (fun d _ c _ _ h => by cases d <;> exact h) (HS.out.turn (Below.drew (Below.refl _ _))) (fun X hXe hX => ?_)
        clear hXe
        repeat (apply wpOrd_class; ((· first | (rw [List.getElem?_toArray, List.getElem?_cons_zero]; done) | (simp only [List.getElem?_toArray, List.getElem?_cons_succ, List.getElem?_cons_zero]; exact rfl))); (· exact rfl); intro K hK; apply Exists.intro; refine And.intro (fun X' hX' => ?_) ?_; (· obtain ⟨j0, j1, j2, j3, j4⟩ := jour_cells hX'.at2.blk; clear hX'; go_simp; (try go_bits); first | done | exact rfl | exact ⟨rfl, rfl⟩); go_simp; refine hK _ _ ?_; clear hK K)
        (apply wpOrd_comes; ((· first | (rw [List.getElem?_toArray, List.getElem?_cons_zero]; done) | (simp only [List.getElem?_toArray, List.getElem?_cons_succ, List.getElem?_cons_zero]; exact rfl))); intro N hN)
        go_wp2_with (go_at_call 65; (with_reducible refine (HBL.out k _ hlt hX.drop.drop).mono ?_); rintro r X2 ⟨rfl, hb⟩; have hX2 := hX.turn hb; clear hb)
        refine hN _ _ (fun _ => hX2) ?_
        clear hN
        (apply wpOrd_comes; ((· first | (rw [List.getElem?_toArray, List.getElem?_cons_zero]; done) | (simp only [List.getElem?_toArray, List.getElem?_cons_succ, List.getElem?_cons_zero]; exact rfl))); intro N hN)
        go_wp2_with (go_at_call 15; (with_reducible refine (HW.out _ hX2).mono ?_); rintro r X3 ⟨rfl, hs3⟩; have H3 := hid hs3; clear hs3)
        refine hN _ _ (fun h => by cases h) ?_
        clear hN
        (apply wpOrd_pure; ((· first | (rw [List.getElem?_toArray, List.getElem?_cons_zero]; done) | (simp only [List.getElem?_toArray, List.getElem?_cons_succ, List.getElem?_cons_zero]; exact rfl))); (· exact rfl); intro K hK; apply Exists.intro; refine And.intro (fun X' => ?_) ?_; (· go_simp; (try go_bits); first | done | exact rfl | exact ⟨rfl, rfl⟩); go_simp; refine hK _ _ ?_; clear hK K)
        refine wpOrd_done ?_
        clear hX hX2
        go_wp2_with fail
        go_roundw
        case rel => exact ⟨k + 1, by omega, by omega, by go_num, (T.write (pk : Int) (blockB J.n k rec)).1, hid (by rw [HM.out]; have := HZ.out; rw [tailS_go (by rw [← HPK.out]; exact HA0.out), ← HPK.out] at this; exact this), hid (HTO.out.write _ (blockB_len _ _ _)), H3⟩
        case measure => simp [intOf]; omega
      · have HA0 := hid ha
        obtain ⟨e, he⟩ : ∃ e, e = (T.write (pk : Int) (blockB J.n k rec)).2 := ⟨_, rfl⟩
        rw [← he] at ha
        have hne : (e != 0) = true := by simpa using ha
        have HW := hid (show ∀ X, St W0 (Disk p T :: Blk j (jourV p J) 114 :: L) X → Calls Try.prog 15 #[.pointer (some ⟨p, 0, none⟩), .int .i64 pk, .agg (bv (blockB J.n k rec))] X fun r X' => r = .returned (.int .i64 e) ∧ St W0 (Disk p (T.write (pk : Int) (blockB J.n k rec)).1 :: Blk j (jourV p J) 114 :: L) X' from fun X h => (write_st h HTO.out (by omega) _ (blockB_len _ _ _)).mono fun r X' hx => ⟨by rw [hx.1, he], hx.2⟩)
        have HE := hid he
        have HEN := hid ha
        clear ha he
        go_wp2_with fail
        refine wp_region_ord [22, 23] [(0, 1), (1, 1), (2, 1), (3, 1), (4, 1), (5, 1), (6, 1), (7, 1), (8, 1), (9, 1), (10, 1), (11, 1), (12, 1), (13, 1), (14, 1), (15, 1), (16, 1), (17, 1), (18, 1), (19, 1), (20, 1), (21, 2), (22, 2), (23, 0)] (fun X => St W0 (Disk p T :: Blk j (jourV p J) 114 :: L) X) (by kernel_rfl) (by kernel_rfl) (fun d _ c _ _ h => by cases d <;> exact h) (HS.out.turn (Below.drew (Below.refl _ _))) (fun X hXe hX => ?_)
        clear hXe
        repeat (apply wpOrd_class; ((· first | (rw [List.getElem?_toArray, List.getElem?_cons_zero]; done) | (simp only [List.getElem?_toArray, List.getElem?_cons_succ, List.getElem?_cons_zero]; exact rfl))); (· exact rfl); intro K hK; apply Exists.intro; refine And.intro (fun X' hX' => ?_) ?_; (· obtain ⟨j0, j1, j2, j3, j4⟩ := jour_cells hX'.at2.blk; clear hX'; go_simp; (try go_bits); first | done | exact rfl | exact ⟨rfl, rfl⟩); go_simp; refine hK _ _ ?_; clear hK K)
        (apply wpOrd_comes; ((· first | (rw [List.getElem?_toArray, List.getElem?_cons_zero]; done) | (simp only [List.getElem?_toArray, List.getElem?_cons_succ, List.getElem?_cons_zero]; exact rfl))); intro N hN)
        go_wp2_with (go_at_call 65; (with_reducible refine (HBL.out k _ hlt hX.drop.drop).mono ?_); rintro r X2 ⟨rfl, hb⟩; have hX2 := hX.turn hb; clear hb)
        refine hN _ _ (fun _ => hX2) ?_
        clear hN
        (apply wpOrd_comes; ((· first | (rw [List.getElem?_toArray, List.getElem?_cons_zero]; done) | (simp only [List.getElem?_toArray, List.getElem?_cons_succ, List.getElem?_cons_zero]; exact rfl))); intro N hN)
        go_wp2_with (go_at_call 15; (with_reducible refine (HW.out _ hX2).mono ?_); rintro r X3 ⟨rfl, hs3⟩; have H3 := hid hs3; clear hs3)
        refine hN _ _ (fun h => by cases h) ?_
        clear hN
        (apply wpOrd_pure; ((· first | (rw [List.getElem?_toArray, List.getElem?_cons_zero]; done) | (simp only [List.getElem?_toArray, List.getElem?_cons_succ, List.getElem?_cons_zero]; exact rfl))); (· exact rfl); intro K hK; apply Exists.intro; refine And.intro (fun X' => ?_) ?_; (· go_simp; (try go_bits); first | done | exact rfl | exact ⟨rfl, rfl⟩); go_simp; refine hK _ _ ?_; clear hK K)
        refine wpOrd_done ?_
        clear hX hX2
        go_wp2_with fail
        go_ret
        have hz := HZ.out
        rw [tailS_stop (by rw [← HPK.out]; exact HA0.out), ← HPK.out] at hz
        have ht := HTA.out
        rw [← hz, if_pos HA0.out] at ht
        rw [ht, HE.out]
        exact ⟨rfl, H3.out⟩
    · have e1 : ¬ (k : Int) < (nb : Int) := by omega
      have HE := hid (show (T, (0 : Int)) = R by have := HZ.out; rw [show nb - k = 0 by omega] at this; exact this)
      obtain ⟨y0, y1, y2, y3, y4⟩ := jour_cells HS.out.at2.blk
      clear y1 y2 y3 y4
      by_cases hone : nb = 1
      · have e2 : (nb : Int) = 1 := by omega
        have HT1 := hid (show S.tailA J rec = (T, 0) by rw [HTA.out, ← HE.out, if_neg (by simp), if_pos hone])
        have e3 : ((nb : Int) == 1) = true := by simpa using e2
        clear e2 hone
        go_wp2_with fail
        go_ret
        rw [HT1.out]
        exact ⟨rfl, HS.out⟩
      · have e3 : ((nb : Int) == 1) = false := by rw [beq_eq_false_iff_ne]; omega
        have HT1 := hid (show S.tailA J rec = T.sync by rw [HTA.out, ← HE.out, if_neg (by simp), if_neg hone])
        clear hone
        go_wp2_with (go_at_call 16; (with_reducible refine (sync_st HS.out HTO.out (by omega)).mono ?_); rintro r w2 ⟨rfl, hs2⟩; have H2 := hid hs2; clear hs2)
        go_ret
        rw [HT1.out]
        exact ⟨rfl, H2.out⟩
end
end Go.Proofs.Ythmchbdhikakhaa
/- Append. -/
namespace Go.Proofs.Ythmchbdhikakhaa
open Go.RowKit Go.Cu
theorem append_nil {v : Value} (w : World) : Calls Try.prog 45 #[.pointer none, v] w fun r w' => r = .returned (.int .i64 1) ∧ w = w' := by
  go_enter Try.func45, Try.ntmps45
  go_wp2
  go_ret
  exact ⟨rfl, rfl⟩
theorem tailS_ok {J : Jn} {rec : List UInt8} : ∀ (m k : Nat) {S : DS} {N : Nat}, S.Ok N → (S.tailS J rec m k).1.Ok (N + m)
  | 0, _, _, _, h => h
  | m + 1, k, S, N, h => by
    unfold DS.tailS
    split
    · exact (h.write _ (blockB_len _ _ _)).mono (by omega)
    · exact (tailS_ok m (k + 1) (h.write _ (blockB_len _ _ _))).mono (by omega)
theorem tailA_ok {S : DS} {N : Nat} (h : S.Ok N) (J : Jn) (rec : List UInt8) {nb : Nat} (hnb : nb = blocksN rec.length) (h2 : nb ≤ 561) : (S.tailA J rec).1.Ok (N + 600) := by
  have h1 := tailS_ok (J := J) (rec := rec) (blocksN rec.length - 1) 1 h
  unfold DS.tailA
  split
  · exact h1.mono (by omega)
  · split
    · exact h1.mono (by omega)
    · exact h1.sync.mono (by omega)
/-- A journal behind an append. -/
def _root_.Go.Cu.Jn.after (J : Jn) (e : Int) (len : Nat) : Jn := if e = 0 then J.more len else J
section
variable {W0 W : World} {L : List Atm} {p j : Nat} {S : DS} {M0 : Nat} {J : Jn}
set_option maxRecDepth 20000 in
set_option maxHeartbeats 1000000 in
theorem append_big {rec : List UInt8} {A : Option Addr} {c : Nat} (hl : 65535 < rec.length) (hlm : rec.length ≤ maxLen) (w : World) :
    Calls Try.prog 45 #[.pointer (some ⟨j, 0, none⟩), .slice A rec.length c] w fun r w' => r = .returned (.int .i64 5) ∧ w = w' := by
  unfold maxLen at hlm
  go_enter Try.func45, Try.ntmps45
  go_wp2
  go_ret
  exact ⟨rfl, rfl⟩
set_option maxRecDepth 20000 in
set_option maxHeartbeats 8000000 in
theorem append_st (h : St W0 (Disk p S :: Blk j (jourV p J) 114 :: L) W) (hok : S.Ok M0) (hJ : J.Ok S.now.length) (hM : M0 + 700 ≤ 1000000) {rec : List UInt8} {A : Option Addr} {c : Nat} (hrec : ∀ X, St W0 L X → BytesIn X A rec) (hl : rec.length ≤ 65535) (hc : rec.length ≤ c) (hc2 : c ≤ maxLen) :
    Calls Try.prog 45 #[.pointer (some ⟨j, 0, none⟩), .slice A rec.length c] W fun r w' => r = .returned (.int .i64 (S.append J rec).2) ∧ St W0 (Disk p (S.append J rec).1 :: Blk j (jourV p (J.after (S.append J rec).2 rec.length)) 114 :: L) w' := by
  obtain ⟨nb, hnb⟩ : ∃ nb, nb = blocksN rec.length := ⟨_, rfl⟩
  have HBK := hid (fun X => (blocks_any (rec.length : Int) X).mono (fun r w' hx => (⟨by rw [hx.1, blocksI_nat hl, ← hnb], hx.2⟩ : r = .returned (.int .i64 nb) ∧ X = w')))
  have hnb1 : 1 ≤ nb := by rw [hnb]; exact blocksN_pos _
  have hnb2 : nb ≤ 561 := by rw [hnb]; exact blocksN_le hl
  have g1 := hJ.fits
  have g2 := hJ.used
  have g3 := hJ.few
  have g4 := hJ.big
  have HNB := hid hnb
  have HH := hid h
  have HOK := hid hok
  have HB0 := hid (show ∀ X, St W0 L X → Calls Try.prog 65 #[.int .i64 J.n, .int .i64 0, .slice A rec.length c] X fun r X' => r = .returned (.agg (bv (blockB J.n 0 rec))) ∧ Below X.heap.size X X' from fun X hX => block_any (n := J.n) (k := 0) (hrec X hX) (by omega) hl hc hc2 (by rw [← hnb]; omega))
  have HTL := hid (fun (X : World) (hX : St W0 (Disk p S :: Blk j (jourV p J) 114 :: L) X) => tail_st hX hok hJ (by omega) hrec hl hc hc2)
  have hle : ¬ (65535 : Int) < (rec.length : Int) := by omega
  have hrl : (rec.length : Int) ≤ 65535 := by omega
  have HAP := hid (show S.append J rec = if J.size - J.used < nb then (S, 7) else if (S.tailA J rec).2 ≠ 0 then S.tailA J rec else (S.tailA J rec).1.headA J rec by unfold DS.append; rw [if_neg (by omega), ← hnb])
  obtain ⟨y0, y1, y2, y3, y4⟩ := jour_cells h.at2.blk
  clear h hok hJ hrec hnb hc hc2 hl
  go_enter Try.func45, Try.ntmps45
  go_wp2_with fail
  refine wp_region_ord [] [(0, 1), (1, 1), (3, 1), (4, 1), (5, 1), (6, 1), (7, 1), (8, 1), (9, 1), (10, 1), (11, 1), (2, 2), (12, 1), (13, 1)] (fun X => St W0 (Disk p S :: Blk j (jourV p J) 114 :: L) X) (by kernel_rfl) (by kernel_rfl) (fun d _ c _ _ h => by cases d <;> exact h) (HH.out.turn (Below.drew (Below.refl _ _))) (fun X hXe hX => ?_)
  clear hXe y0 y1 y2 y3 y4
  repeat (apply wpOrd_class; ((· first | (rw [List.getElem?_toArray, List.getElem?_cons_zero]; done) | (simp only [List.getElem?_toArray, List.getElem?_cons_succ, List.getElem?_cons_zero]; exact rfl))); (· exact rfl); intro K hK; apply Exists.intro; refine And.intro (fun X' hX' => ?_) ?_; (· obtain ⟨j0, j1, j2, j3, j4⟩ := jour_cells hX'.at2.blk; clear hX'; go_simp; (try go_bits); first | done | exact rfl | exact ⟨rfl, rfl⟩); go_simp; refine hK _ _ ?_; clear hK K)
  (apply wpOrd_comes; ((· first | (rw [List.getElem?_toArray, List.getElem?_cons_zero]; done) | (simp only [List.getElem?_toArray, List.getElem?_cons_succ, List.getElem?_cons_zero]; exact rfl))); intro N hN)
  go_wp2_with (go_at_call 48; (with_reducible refine (HBK.out _).mono ?_); rintro r w1 ⟨rfl, rfl⟩)
  refine hN _ _ (fun _ => hX) ?_
  clear hN N
  by_cases hfull : J.size - J.used < nb
  · have HAP := hid (HAP.out.trans (if_pos hfull))
    have hf1 : decide ((J.size : Int) - (J.used : Int) < (nb : Int)) = true := decide_eq_true (by omega)
    repeat (apply wpOrd_class; ((· first | (rw [List.getElem?_toArray, List.getElem?_cons_zero]; done) | (simp only [List.getElem?_toArray, List.getElem?_cons_succ, List.getElem?_cons_zero]; exact rfl))); (· exact rfl); intro K hK; apply Exists.intro; refine And.intro (fun X' hX' => ?_) ?_; (· obtain ⟨j0, j1, j2, j3, j4⟩ := jour_cells hX'.at2.blk; clear hX'; go_simp; (try go_bits); first | done | exact rfl | exact ⟨rfl, rfl⟩); go_simp; refine hK _ _ ?_; clear hK K)
    refine wpOrd_done ?_
    have HX := hid hX
    clear hX hf1
    go_wp2_with fail
    go_ret
    have HJA := hid (show J.after (S.append J rec).2 rec.length = J by rw [HAP.out]; unfold Jn.after; rw [if_neg (by simp)])
    rw [HJA.out, HAP.out]
    exact ⟨rfl, HX.out⟩
  · have HAP := hid (HAP.out.trans (if_neg hfull))
    have hf1 : decide ((J.size : Int) - (J.used : Int) < (nb : Int)) = false := decide_eq_false (by omega)
    repeat (apply wpOrd_class; ((· first | (rw [List.getElem?_toArray, List.getElem?_cons_zero]; done) | (simp only [List.getElem?_toArray, List.getElem?_cons_succ, List.getElem?_cons_zero]; exact rfl))); (· exact rfl); intro K hK; apply Exists.intro; refine And.intro (fun X' hX' => ?_) ?_; (· obtain ⟨j0, j1, j2, j3, j4⟩ := jour_cells hX'.at2.blk; clear hX'; go_simp; (try go_bits); first | done | exact rfl | exact ⟨rfl, rfl⟩); go_simp; refine hK _ _ ?_; clear hK K)
    refine wpOrd_done ?_
    have HX := hid hX
    clear hX hf1
    obtain ⟨T, e, hT⟩ : ∃ T e, S.tailA J rec = (T, e) := ⟨_, _, rfl⟩
    rw [hT] at HTL HAP
    have HTO := hid (show T.Ok (M0 + 600) from by
      have := tailA_ok HOK.out J rec HNB.out hnb2
      rw [hT] at this
      exact this)
    clear hT
    by_cases he : e = 0
    · subst he
      have HA2 := hid (show S.append J rec = T.headA J rec from HAP.out.trans (if_neg (by simp)))
      obtain ⟨pk, hpk⟩ : ∃ pk : Nat, pk = J.first + J.used := ⟨_, rfl⟩
      have epk : (J.first : Int) + (J.used : Int) = (pk : Int) := by omega
      obtain ⟨Q, e2, hQ⟩ : ∃ Q e2, T.write (pk : Int) (blockB J.n 0 rec) = (Q, e2) := ⟨_, _, rfl⟩
      have HQO := hid (show Q.Ok (M0 + 600 + 1) by have := HTO.out.write (pk : Int) (blockB_len J.n 0 rec); rw [hQ] at this; exact this)
      have HHA := hid (show T.headA J rec = if e2 ≠ 0 then (Q, e2) else Q.sync by unfold DS.headA; rw [← hpk, hQ])
      have HW := hid (show ∀ X, St W0 (Disk p T :: Blk j (jourV p J) 114 :: L) X → Calls Try.prog 15 #[.pointer (some ⟨p, 0, none⟩), .int .i64 pk, .agg (bv (blockB J.n 0 rec))] X fun r X' => r = .returned (.int .i64 e2) ∧ St W0 (Disk p Q :: Blk j (jourV p J) 114 :: L) X' from fun X h => (write_st h HTO.out (by omega) _ (blockB_len _ _ _)).mono fun r X' hx => by rw [hQ] at hx; exact hx)
      clear hpk hQ
      go_wp2_with (go_at_call 64; (with_reducible refine (HTL.out _ HX.out).mono ?_); rintro r w2 ⟨rfl, hs2⟩; have H2 := hid hs2; clear hs2)
      refine wp_region_ord [19, 20] [(0, 1), (1, 1), (2, 1), (3, 1), (4, 1), (5, 1), (6, 1), (7, 1), (8, 1), (9, 1), (10, 1), (11, 1), (12, 1), (13, 1), (14, 1), (15, 1), (16, 1), (17, 1), (18, 2), (19, 2), (20, 0)] (fun X => St W0 (Disk p T :: Blk j (jourV p J) 114 :: L) X) (by kernel_rfl) (by kernel_rfl) (fun d _ c _ _ h => by cases d <;> exact h) (H2.out.turn (Below.drew (Below.refl _ _))) (fun X hXe hX => ?_)
      clear hXe
      repeat (apply wpOrd_class; ((· first | (rw [List.getElem?_toArray, List.getElem?_cons_zero]; done) | (simp only [List.getElem?_toArray, List.getElem?_cons_succ, List.getElem?_cons_zero]; exact rfl))); (· exact rfl); intro K hK; apply Exists.intro; refine And.intro (fun X' hX' => ?_) ?_; (· obtain ⟨j0, j1, j2, j3, j4⟩ := jour_cells hX'.at2.blk; clear hX'; go_simp; (try go_bits); first | done | exact rfl | exact ⟨rfl, rfl⟩); go_simp; refine hK _ _ ?_; clear hK K)
      (apply wpOrd_comes; ((· first | (rw [List.getElem?_toArray, List.getElem?_cons_zero]; done) | (simp only [List.getElem?_toArray, List.getElem?_cons_succ, List.getElem?_cons_zero]; exact rfl))); intro N hN)
      go_wp2_with (go_at_call 65; (with_reducible refine (HB0.out _ hX.drop.drop).mono ?_); rintro r X2 ⟨rfl, hb⟩; have hX2 := hX.turn hb; clear hb)
      refine hN _ _ (fun _ => hX2) ?_
      clear hN N
      (apply wpOrd_comes; ((· first | (rw [List.getElem?_toArray, List.getElem?_cons_zero]; done) | (simp only [List.getElem?_toArray, List.getElem?_cons_succ, List.getElem?_cons_zero]; exact rfl))); intro N hN)
      go_wp2_with (go_at_call 15; (with_reducible refine (HW.out _ hX2).mono ?_); rintro r X3 ⟨rfl, hs3⟩; have H3 := hid hs3; clear hs3)
      refine hN _ _ (fun h => by cases h) ?_
      clear hN N
      (apply wpOrd_pure; ((· first | (rw [List.getElem?_toArray, List.getElem?_cons_zero]; done) | (simp only [List.getElem?_toArray, List.getElem?_cons_succ, List.getElem?_cons_zero]; exact rfl))); (· exact rfl); intro K hK; apply Exists.intro; refine And.intro (fun X' => ?_) ?_; (· go_simp; (try go_bits); first | done | exact rfl | exact ⟨rfl, rfl⟩); go_simp; refine hK _ _ ?_; clear hK K)
      refine wpOrd_done ?_
      clear hX hX2
      obtain ⟨y0, y1, y2, y3, y4⟩ := jour_cells H3.out.at2.blk
      by_cases he2 : e2 = 0
      · have HA3 := hid (show S.append J rec = Q.sync from HA2.out.trans (HHA.out.trans (if_neg (by simpa using he2))))
        clear HA2 HHA HAP
        subst he2
        obtain ⟨Z, e3, hZ⟩ : ∃ Z e3, Q.sync = (Z, e3) := ⟨_, _, rfl⟩
        rw [hZ] at HA3
        have HSY := hid (show ∀ X, St W0 (Disk p Q :: Blk j (jourV p J) 114 :: L) X → Calls Try.prog 16 #[.pointer (some ⟨p, 0, none⟩)] X fun r X' => r = .returned (.int .i64 e3) ∧ St W0 (Disk p Z :: Blk j (jourV p J) 114 :: L) X' from fun X h => (sync_st h HQO.out (by omega)).mono fun r X' hx => by rw [hZ] at hx; exact hx)
        clear hZ
        by_cases he3 : e3 = 0
        · subst he3
          have HJA := hid (show J.after (S.append J rec).2 rec.length = J.more rec.length by rw [HA3.out]; unfold Jn.after; rw [if_pos rfl])
          go_wp2_with (go_at_call 16; (with_reducible refine (HSY.out _ H3.out).mono ?_); rintro r w4 ⟨rfl, hs4⟩; have H4 := hid hs4; clear hs4)
          refine wp_region_ord [10] [(0, 1), (1, 1), (2, 1), (3, 1), (4, 1), (5, 1), (6, 2), (7, 1), (8, 1), (9, 1), (10, 2)] (fun X => St W0 (Disk p Z :: Blk j (jourV p J) 114 :: L) X) (by kernel_rfl) (by kernel_rfl) (fun d _ c _ _ h => by cases d <;> exact h) (H4.out.turn (Below.drew (Below.refl _ _))) (fun X hXe hX => ?_)
          clear hXe y0 y1 y2 y3 y4
          repeat (apply wpOrd_class; ((· first | (rw [List.getElem?_toArray, List.getElem?_cons_zero]; done) | (simp only [List.getElem?_toArray, List.getElem?_cons_succ, List.getElem?_cons_zero]; exact rfl))); (· exact rfl); intro K hK; apply Exists.intro; refine And.intro (fun X' hX' => ?_) ?_; (· obtain ⟨j0, j1, j2, j3, j4⟩ := jour_cells hX'.at2.blk; clear hX'; go_simp; (try go_bits); first | done | exact rfl | exact ⟨rfl, rfl⟩); go_simp; refine hK _ _ ?_; clear hK K)
          (apply wpOrd_comes; ((· first | (rw [List.getElem?_toArray, List.getElem?_cons_zero]; done) | (simp only [List.getElem?_toArray, List.getElem?_cons_succ, List.getElem?_cons_zero]; exact rfl))); intro N hN)
          go_wp2_with (go_at_call 48; (with_reducible refine (HBK.out _).mono ?_); rintro r X5 ⟨rfl, rfl⟩)
          refine hN _ _ (fun _ => hX) ?_
          clear hN N
          repeat (apply wpOrd_class; ((· first | (rw [List.getElem?_toArray, List.getElem?_cons_zero]; done) | (simp only [List.getElem?_toArray, List.getElem?_cons_succ, List.getElem?_cons_zero]; exact rfl))); (· exact rfl); intro K hK; apply Exists.intro; refine And.intro (fun X' hX' => ?_) ?_; (· obtain ⟨j0, j1, j2, j3, j4⟩ := jour_cells hX'.at2.blk; clear hX'; go_simp; (try go_bits); first | done | exact rfl | exact ⟨rfl, rfl⟩); go_simp; refine hK _ _ ?_; clear hK K)
          obtain ⟨y0, y1, y2, y3, y4⟩ := jour_cells hX.at2.blk
          have f3 := frozen_of_row X j 3 _ _ hX.at2.blk
          (apply wpOrd_comes; ((· first | (rw [List.getElem?_toArray, List.getElem?_cons_zero]; done) | (simp only [List.getElem?_toArray, List.getElem?_cons_succ, List.getElem?_cons_zero]; exact rfl))); intro N hN)
          go_wp2_with fail
          have H5 := hid ((hX.at2.setCell 3 (.int .i64 (J.used + nb))).at2)
          clear hX y0 y1 y2 y3 y4 f3
          refine hN _ _ (fun h => by cases h) ?_
          clear hN N
          refine wpOrd_done ?_
          obtain ⟨Y, hY⟩ : ∃ Y, Y = X.setCell ⟨j, 3, none⟩ (.int .i64 (J.used + nb)) := ⟨_, rfl⟩
          rw [← hY] at H5
          have z4 : Y.cell? ⟨j, 4, none⟩ = some (.int .i64 J.n) := (cell_of_row Y j 4 _ _ _ H5.out.at2.blk).trans rfl
          have f4 := frozen_of_row Y j 4 _ _ H5.out.at2.blk
          simp only [← hY]
          clear hY
          go_wp2_with fail
          go_ret
          rw [HJA.out, HA3.out]
          refine ⟨rfl, ?_⟩
          have H6 := (H5.out.at2.setCell 4 (.int .i64 (J.n + 1))).at2
          rw [show jourV p (J.more rec.length) = ((jourV p J).setIfInBounds 3 (.int .i64 (J.used + nb))).setIfInBounds 4 (.int .i64 (J.n + 1)) from by rw [HNB.out]; rfl]
          exact H6
        · have hne : (e3 != 0) = true := by simpa using he3
          have HJA := hid (show J.after (S.append J rec).2 rec.length = J by rw [HA3.out]; unfold Jn.after; rw [if_neg he3])
          clear he3
          go_wp2_with (go_at_call 16; (with_reducible refine (HSY.out _ H3.out).mono ?_); rintro r w4 ⟨rfl, hs4⟩; have H4 := hid hs4; clear hs4)
          go_ret
          rw [HJA.out, HA3.out]
          exact ⟨rfl, H4.out⟩
      · have HA3 := hid (show S.append J rec = (Q, e2) from HA2.out.trans (HHA.out.trans (if_pos (by simpa using he2))))
        clear HA2 HHA HAP
        have hne : (e2 != 0) = true := by simpa using he2
        have HJA := hid (show J.after (S.append J rec).2 rec.length = J by rw [HA3.out]; unfold Jn.after; rw [if_neg he2])
        clear he2
        go_wp2_with fail
        go_ret
        rw [HJA.out, HA3.out]
        exact ⟨rfl, H3.out⟩
    · have HA2 := hid (show S.append J rec = (T, e) from HAP.out.trans (if_pos he))
      have hne : (e != 0) = true := by simpa using he
      have HJA := hid (show J.after (S.append J rec).2 rec.length = J by rw [HA2.out]; unfold Jn.after; rw [if_neg he])
      clear he HAP
      go_wp2_with (go_at_call 64; (with_reducible refine (HTL.out _ HX.out).mono ?_); rintro r w2 ⟨rfl, hs2⟩; have H2 := hid hs2; clear hs2)
      go_ret
      rw [HJA.out, HA2.out]
      exact ⟨rfl, H2.out⟩
end
end Go.Proofs.Ythmchbdhikakhaa
/- An order of one's own with one fork: two that turn the world may come in either order. -/
namespace Go.Cu
open Go Go.RowKit
section
variable {P : Program} {ops : Array Oper} {Q : Exit → Act → World → Prop} {md : Region.Mode} {S : World → Prop} {loose : List Nat}
theorem Qn_Qn (F N : Act → World → Prop) : Qn (Qn Q F) N = Qn Q N := by
  funext x a w
  cases x <;> rfl
def ordrF (md : Region.Mode) (ops : Array Oper) (loose : List Nat) (E : Bool → Array Bool → Bool) : List (Nat × Nat) → Bool → Array Bool → Bool
  | [], s, listed => E s listed
  | (i, 0) :: r, s, listed => loose.contains i && (Region.ready md ops listed).contains i && Region.free md ops listed i && ordrF md ops loose E r s (listed.setIfInBounds i true)
  | (i, 1) :: r, s, listed => s && (Region.ready md ops listed).contains i && Region.free md ops listed i && waitB md ops i (waitOf md ops i) &&
      ((List.range ops.size).all fun j => listed.getD j true || j == i || !loose.contains j || (waitOf md ops i).contains j) && ordrF md ops loose E r s (listed.setIfInBounds i true)
  | (i, _ + 2) :: r, _, listed => decide (Region.ready md ops listed = [i]) && ordrF md ops loose E r (!loose.contains i) (listed.setIfInBounds i true)

theorem wpAnyN_of_ordF (hsel : Region.noSelect ops = true) (hQ : ∀ (d : Option Tmp) (v : Value) c a w, Q (.panic c) (a.put d v) w → Q (.panic c) a w)
    {F : Act → World → Prop} {E : Bool → Array Bool → Bool} {n : Nat} (hE : ∀ s listed a w, OInv md ops listed → E s listed = true → (s = true → S w) → F a w → wpAnyN P md ops Q S loose n listed a w) :
    ∀ (l : List (Nat × Nat)) (s : Bool) (listed : Array Bool) (a : Act) (w : World), OInv md ops listed → ordrF md ops loose E l s listed = true → (s = true → S w) → wpOrd P ops (Qn Q F) S loose l a w → wpAnyN P md ops Q S loose (n + l.length) listed a w
  | [], s, listed, a, w, inv, hB, hS, h => hE s listed a w inv (by simpa [ordrF] using hB) hS h
  | (i, 0) :: r, s, listed, a, w, inv, hB, hS, h => by
    simp only [ordrF, Bool.and_eq_true] at hB
    obtain ⟨⟨⟨hl, hr⟩, hf⟩, hB'⟩ := hB
    obtain ⟨o, ho, v, hy, hK⟩ := h
    have hr' : i ∈ Region.ready md ops listed := by simpa using hr
    exact wpAnyN_pure ho (Region.noSelect_spec hsel) (fun c a w => hQ _ _ c a w) hl _ listed a w (Region.free_spec ho hf) hr' hy (wpAnyN_of_ordF hsel hQ hE r s _ _ w (inv.set hr') hB' hS hK)
  | (i, 1) :: r, s, listed, a, w, inv, hB, hS, h => by
    simp only [ordrF, Bool.and_eq_true] at hB
    obtain ⟨⟨⟨⟨⟨hs, hr⟩, hf⟩, hD⟩, hn⟩, hB'⟩ := hB
    obtain ⟨o, ho, v, hy, hK⟩ := h
    have hr' : i ∈ Region.ready md ops listed := by simpa using hr
    refine wpAnyN_first ho (Region.noSelect_spec hsel) hD (fun c a w => hQ _ _ c a w) _ listed a w inv (fun j hj hun hji hlo => ?_) (Region.free_spec ho hf) hr' hy (hS hs) (wpAnyN_of_ordF hsel hQ hE r s _ _ w (inv.set hr') hB' hS hK)
    have h1 := List.all_eq_true.1 hn j (List.mem_range.2 hj)
    simp only [Bool.or_eq_true, beq_iff_eq, hun, hji, hlo, Bool.not_true, Bool.false_eq_true, false_or] at h1
    simpa using h1
  | (i, k + 2) :: r, s, listed, a, w, inv, hB, hS, h => by
    simp only [ordrF, Bool.and_eq_true, decide_eq_true_eq] at hB
    obtain ⟨hr, hB'⟩ := hB
    obtain ⟨o, ho, h⟩ := h
    rw [Qn_Qn] at h
    refine ⟨fun h1 => (by rw [hr] at h1; cases h1), fun j hj => ?_⟩
    have hji : j = i := by rw [hr] at hj; simpa using hj
    subst hji
    refine wpOp_mono (fun a' w' h' => ⟨h'.1, wpAnyN_of_ordF hsel hQ hE r _ _ a' w' (inv.set hj) hB' (fun hs => h'.1 (by simpa using hs)) h'.2⟩) (wpOp_of_one ho h)

/-- Behind the order l one of i and j comes, and then its own order. -/
def forkB (ops : Array Oper) (loose : List Nat) (i j : Nat) (li lj : List (Nat × Nat)) (_ : Bool) (listed : Array Bool) : Bool :=
  decide (Region.ready .any ops listed = [i, j]) && ordrF .any ops loose (fun _ l => (Region.ready .any ops l).isEmpty) li (!loose.contains i) (listed.setIfInBounds i true) &&
    ordrF .any ops loose (fun _ l => (Region.ready .any ops l).isEmpty) lj (!loose.contains j) (listed.setIfInBounds j true)
def Forked (P : Program) (ops : Array Oper) (Q : Exit → Act → World → Prop) (S : World → Prop) (loose : List Nat) (i j : Nat) (li lj : List (Nat × Nat)) (a : Act) (w : World) : Prop :=
  wpOrd P ops Q S loose ((i, 2) :: li) a w ∧ wpOrd P ops Q S loose ((j, 2) :: lj) a w
theorem wp_region_fork {id : Nat} {a : Act} {w : World} {l : List Oper} {A : Nat → Act} (loose : List Nat) (order : List (Nat × Nat)) (i j : Nat) (li lj : List (Nat × Nat)) (S : World → Prop) (R : Nat → World → Prop) (hm : P.follows .mixedOrders = true)
    (hB : (Region.noSelect l.toArray && decide (order.length + li.length + 1 = l.toArray.size) && decide (li.length = lj.length) && ordrF .any l.toArray loose (forkB l.toArray loose i j li lj) order true (Array.replicate l.toArray.size false)) = true)
    (hQ : ∀ (d : Option Tmp) (v : Value) c a w, Q (.panic c) (a.put d v) w → Q (.panic c) a w) (hS : S w.drew)
    (h : ∀ X, S X → wpOrd P l.toArray (Qn Q (Forked P l.toArray (Qn Q fun a w => ∃ g, R g w ∧ a = A g) S loose i j li lj)) S loose order a X)
    (hC : ∀ g w, R g w → Q .normal (A g) w) : (Code.region id l.toArray true).wp P Q a w := by
  simp only [Bool.and_eq_true, decide_eq_true_eq] at hB
  obtain ⟨⟨⟨hsel, hlen⟩, hl2⟩, hb⟩ := hB
  refine wp_region_any hm ?_
  have hend : ∀ (s : Bool) (listed : Array Bool) (a : Act) (w : World), OInv .any l.toArray listed → (Region.ready .any l.toArray listed).isEmpty = true → (s = true → S w) → (∃ g, R g w ∧ a = A g) → wpAnyN P .any l.toArray Q S loose 0 listed a w := by
    rintro s listed a w _ hE _ ⟨g, hg, rfl⟩
    exact ⟨by simpa using hE, hC g w hg⟩
  have hfork : ∀ (s : Bool) (listed : Array Bool) (a : Act) (w : World), OInv .any l.toArray listed → forkB l.toArray loose i j li lj s listed = true → (s = true → S w) → Forked P l.toArray (Qn Q fun a w => ∃ g, R g w ∧ a = A g) S loose i j li lj a w → wpAnyN P .any l.toArray Q S loose (0 + li.length + 1) listed a w := by
    rintro s listed a w inv hE _ ⟨⟨oi, hoi, h1⟩, ⟨oj, hoj, h2⟩⟩
    simp only [forkB, Bool.and_eq_true, decide_eq_true_eq] at hE
    obtain ⟨⟨hr, hi⟩, hj⟩ := hE
    rw [Qn_Qn] at h1 h2
    refine ⟨fun h1 => (by rw [hr] at h1; cases h1), fun k hk => ?_⟩
    have hkk : k = i ∨ k = j := by rw [hr] at hk; simpa using hk
    rcases hkk with rfl | rfl
    · exact wpOp_mono (fun a' w' h' => ⟨h'.1, wpAnyN_of_ordF hsel hQ hend li _ _ a' w' (inv.set hk) hi (fun hs => h'.1 (by simpa using hs)) h'.2⟩) (wpOp_of_one hoi h1)
    · rw [hl2]
      exact wpOp_mono (fun a' w' h' => ⟨h'.1, wpAnyN_of_ordF hsel hQ hend lj _ _ a' w' (inv.set hk) hj (fun hs => h'.1 (by simpa using hs)) h'.2⟩) (wpOp_of_one hoj h2)
  have := wpAnyN_of_ordF (md := .any) (S := S) hsel hQ hfork order true _ a w.drew OInv.start hb (fun _ => hS) (h _ hS)
  rw [show 0 + li.length + 1 + order.length = l.toArray.size by omega] at this
  exact wpAny_of_N _ _ _ _ this
theorem wpFork_done {a : Act} {w : World} {F : Act → World → Prop} (h : F a w) : wpOrd P ops (Qn Q F) S loose [] a w := h
end
end Go.Cu
/- bytes.Equal on bytes that lie somewhere. -/
namespace Go.Proofs.Ythmchbdhikakhaa
open Go.RowKit Go.Cu
def numsB (l : List UInt8) : List Int := l.map fun b => (b.toNat : Int)
theorem numsB_bytes (l : List UInt8) : Lib.bytesOf (numsB l) = l := by
  unfold Lib.bytesOf numsB
  rw [List.map_map]
  conv => rhs; rw [← List.map_id l]
  refine List.map_congr_left fun b _ => ?_
  simp
theorem numsB_getD {l : List UInt8} {i : Nat} (h : i < l.length) : (numsB l).getD i 0 = ((l.getD i 0).toNat : Int) := by
  simp [numsB, List.getD, List.getElem?_eq_getElem h]
theorem equal_any {l m : List UInt8} {ga oa gb ob c d : Nat} (w : World)
    (hl : ∀ i, i < l.length → w.cell? ⟨ga, oa + i, none⟩ = some (.int .u8 (l.getD i 0).toNat)) (hm : ∀ i, i < m.length → w.cell? ⟨gb, ob + i, none⟩ = some (.int .u8 (m.getD i 0).toNat)) :
    Calls Try.prog 67 #[.slice (some ⟨ga, oa, none⟩) l.length c, .slice (some ⟨gb, ob, none⟩) m.length d] w fun r w' => r = .returned (.bool (l == m)) ∧ w = w' := by
  have h1 := run_convert_bytes_arg (P := Try.prog) w 22 5 Try.underlying22 Try.underlying5 ga oa l.length c (numsB l) (by simp [numsB]) (fun i hi => by rw [hl i hi, numsB_getD hi]) 9 Try.underlying9
  have h2 := run_convert_bytes_arg (P := Try.prog) w 22 5 Try.underlying22 Try.underlying5 gb ob m.length d (numsB m) (by simp [numsB]) (fun i hi => by rw [hm i hi, numsB_getD hi]) 9 Try.underlying9
  rw [show (l == m) = ((strOfNums (numsB l)).toList == (strOfNums (numsB m)).toList) by rw [Lib.strOfNums_toList, Lib.strOfNums_toList, numsB_bytes, numsB_bytes]]
  go_enter Try.func67, Try.ntmps67
  go_wp2
  go_ret
  exact ⟨rfl, rfl⟩
end Go.Proofs.Ythmchbdhikakhaa
namespace Go.Proofs.Ythmchbdhikakhaa
open Go.RowKit Go.Cu
theorem bits_or_i64_nat (a b : Nat) (ha : a < 65536) (hb : b < 65536) : bits .or .i64 (a : Int) (b : Int) = ((a ||| b : Nat) : Int) := by
  have hx : a ||| b < 2 ^ 16 := Nat.or_lt_two_pow (by omega) (by omega)
  have h1 : (BitVec.ofInt 64 (a : Int)).toNat = a := by
    rw [BitVec.ofInt_natCast, BitVec.toNat_ofNat]; exact Nat.mod_eq_of_lt (by omega)
  have h2 : (BitVec.ofInt 64 (b : Int)).toNat = b := by
    rw [BitVec.ofInt_natCast, BitVec.toNat_ofNat]; exact Nat.mod_eq_of_lt (by omega)
  show IntKind.i64.wrap ((BitVec.ofInt 64 (a : Int) ||| BitVec.ofInt 64 (b : Int)).toNat : Int) = _
  rw [BitVec.toNat_or, h1, h2, IntKind.wrap_i64]
  omega
theorem or_bytes {h l : Nat} (hh : h < 256) (hl : l < 256) : bits .or .i64 ((h : Int) * 256) (l : Int) = ((h * 256 + l : Nat) : Int) := by
  have e := bits_or_i64_nat (h * 256) l (by omega) (by omega)
  rw [show ((h * 256 : Nat) : Int) = (h : Int) * 256 from by omega] at e
  rw [e]
  rw [show h * 256 = 2 ^ 8 * h by omega, ← Nat.two_pow_add_eq_or_of_lt (i := 8) (show l < 2 ^ 8 by omega) h]
theorem size_bytes (b : Blk8) : bits .or .i64 (bt b 9 * 256) (bt b 10) = (sizeOfB b : Nat) := by
  have := (b.getD 9 0).toNat_lt
  have := (b.getD 10 0).toNat_lt
  unfold bt sizeOfB
  exact or_bytes (by omega) (by omega)
theorem size_le (b : Blk8) : sizeOfB b ≤ 65535 := by
  have := (b.getD 9 0).toNat_lt
  have := (b.getD 10 0).toNat_lt
  unfold sizeOfB
  omega
end Go.Proofs.Ythmchbdhikakhaa
/- next: the record that stands next. -/
namespace Go.Proofs.Ythmchbdhikakhaa
open Go.RowKit Go.Cu

/-- What next answers. -/
def NextPost (W0 : World) (L : List Atm) : Option (List UInt8) → Ending → World → Prop
  | none, r, w' => r = .returned (.tuple #[.slice none 0 0, .bool false, .int .i64 0]) ∧ St W0 L w'
  | some rec, r, w' => ∃ A, r = .returned (.tuple #[.slice A rec.length rec.length, .bool true, .int .i64 0]) ∧ rec.length ≤ 65535 ∧ St W0 (Vals [.slice A rec.length rec.length] [rec] :: L) w'

theorem info5 : (Try.prog.info? 5).map (fun i => (i.zero, i.size, i.bytes)) = some (some (.int .u8 0), 1, 1) := by kernel_rfl
theorem blk_tail {W0 X : World} {L : List Atm} {gb : Nat} {b : Bk} (h : St W0 (Blk gb (bv b) 33 :: L) X) : ∀ j u, (bvL (b.drop 11))[j]? = some u → X.cell? ((⟨gb, 11, none⟩ : Addr).add j) = some u := by
  intro j u hu
  have e : (⟨gb, 11, none⟩ : Addr).add j = ⟨gb, 11 + j, none⟩ := by unfold Addr.add; split <;> simp_all
  rw [e, blk_cell h, bv_eq, List.getElem?_toArray]
  unfold bvL at hu ⊢
  rw [List.getElem?_map, List.getElem?_drop] at hu
  rw [List.getElem?_map]
  exact hu
def joinB (now : List Blk8) (q m : Nat) : List UInt8 := (List.range m).flatMap fun k => (now.getD (q + k) zeroB).drop 11
theorem joinB_succ (now : List Blk8) (q m : Nat) : joinB now q (m + 1) = joinB now q m ++ (now.getD (q + m) zeroB).drop 11 := by
  unfold joinB
  rw [List.range_succ, List.flatMap_append, List.flatMap_singleton]
theorem joinB_len {now : List Blk8} (h : ∀ b ∈ now, b.length = 128) (q : Nat) : ∀ m, (joinB now q m).length = 117 * m
  | 0 => rfl
  | m + 1 => by
    rw [joinB_succ, List.length_append, joinB_len h q m, List.length_drop, full_getD h]
    omega
theorem joinB_one (now : List Blk8) (q : Nat) : joinB now q 1 = (now.getD q zeroB).drop 11 := by
  rw [joinB_succ]
  rfl
theorem bt_take {b : Bk} {i : Nat} (h : i < 11) : (b.take 11).getD i 0 = b.getD i 0 := by
  rw [List.getD_eq_getElem?_getD, List.getElem?_take_of_lt h, List.getD_eq_getElem?_getD]
theorem equal_heads {W0 X : World} {L : List Atm} {gw gb n s : Nat} {b0 : Bk} (hb : b0.length = 128) (h : St W0 (Blk gw (bv (headZ n s)) 33 :: Blk gb (bv b0) 33 :: L) X) :
    Calls Try.prog 67 #[.slice (some ⟨gb, 0, none⟩) 11 128, .slice (some ⟨gw, 0, none⟩) 11 128] X fun r w' => r = .returned (.bool (b0.take 11 == headL n s)) ∧ X = w' := by
  have h1 := equal_any (l := b0.take 11) (m := headL n s) (ga := gb) (oa := 0) (gb := gw) (ob := 0) (c := 128) (d := 128) X (fun i hi => by
    have hi' : i < 11 := by rw [List.length_take] at hi; omega
    rw [Nat.zero_add, bt_take hi']
    exact (blk_cell h.at2 i).trans (bv_get b0 i (by omega))) (fun i hi => by
    rw [headL_len] at hi
    rw [Nat.zero_add]
    refine ((blk_cell h i).trans (bv_get (headZ n s) i (by rw [headZ_len]; omega))).trans ?_
    unfold bt headZ
    rw [List.getD_eq_getElem?_getD, List.getElem?_append_left (by rw [headL_len]; exact hi), List.getD_eq_getElem?_getD])
  rw [headL_len, List.length_take, hb] at h1
  exact h1
section
variable {W0 W : World} {L : List Atm} {p j : Nat} {S : DS} {N : Nat} {J : Jn}
set_option maxRecDepth 20000 in
set_option maxHeartbeats 8000000 in
theorem next_st (h : St W0 (Disk p S :: Blk j (jourV p J) 114 :: L) W) (hok : S.Ok N) (hoff : S.off = false) (hJ : J.Ok S.now.length) :
    Calls Try.prog 63 #[.pointer (some ⟨j, 0, none⟩)] W (NextPost W0 (Disk p S :: Blk j (jourV p J) 114 :: L) (nextR S.now J)) := by
  have g1 := hJ.fits
  have g2 := hJ.used
  have g3 := hJ.few
  have g4 := hJ.big
  obtain ⟨y0, y1, y2, y3, y4⟩ := jour_cells h.at2.blk
  have HH := hid h
  have HOK := hid hok
  by_cases hfull : J.used = J.size
  · have HNX := hid (show nextR S.now J = none by unfold nextR; rw [if_pos hfull])
    rw [HNX.out]
    clear h hok hJ HNX
    go_enter Try.func63, Try.ntmps63
    go_wp2_with fail
    refine wp_region_ord [] [(0, 1), (1, 1), (2, 1), (3, 1), (4, 1), (5, 1), (6, 1), (7, 1), (8, 1)] (fun X => St W0 (Disk p S :: Blk j (jourV p J) 114 :: L) X) (by kernel_rfl) (by kernel_rfl) (fun d _ c _ _ h => by cases d <;> exact h) (HH.out.turn (Below.drew (Below.refl _ _))) (fun X hXe hX => ?_)
    clear hXe y0 y1 y2 y3 y4
    have hf1 : decide ((J.used : Int) = (J.size : Int)) = true := decide_eq_true (by omega)
    repeat (apply wpOrd_class; ((· first | (rw [List.getElem?_toArray, List.getElem?_cons_zero]; done) | (simp only [List.getElem?_toArray, List.getElem?_cons_succ, List.getElem?_cons_zero]; exact rfl))); (· exact rfl); intro K hK; apply Exists.intro; refine And.intro (fun X' hX' => ?_) ?_; (· obtain ⟨j0, j1, j2, j3, j4⟩ := jour_cells hX'.at2.blk; clear hX'; go_simp; (try go_bits); first | done | exact rfl | exact ⟨rfl, rfl⟩); go_simp; refine hK _ _ ?_; clear hK K)
    refine wpOrd_done ?_
    have HX := hid hX
    clear hX
    go_wp2_with fail
    go_ret3
    exact ⟨rfl, HX.out⟩
  · obtain ⟨b0, hb0⟩ : ∃ b0, b0 = S.now.getD (J.first + J.used) zeroB := ⟨_, rfl⟩
    obtain ⟨pk, hpk⟩ : ∃ pk : Nat, pk = J.first + J.used := ⟨_, rfl⟩
    have epk : (J.first : Int) + (J.used : Int) = (pk : Int) := by omega
    have HPK := hid hpk
    have hb128 : b0.length = 128 := by rw [hb0]; exact full_getD hok.now _
    have HRD := hid (show ∀ (X : World) (L' : List Atm), St W0 (Disk p S :: L') X → Calls Try.prog 18 #[.pointer (some ⟨p, 0, none⟩), .int .i64 pk] X fun x X' => x = .returned (.tuple #[.agg (bv b0), .int .i64 0]) ∧ St W0 (Disk p S :: L') X' from fun X L' hX => by
      have hat : S.at_ (pk : Int) = 0 := by rw [at_in (by omega), hoff]; rfl
      refine (read_rd hX hok _).mono fun r X' hx => ⟨by rw [hx.1, hat, hb0, ← hpk]; unfold DS.rd; rw [if_pos hat, Int.toNat_natCast], hx.2⟩)
    have hf1 : decide ((J.used : Int) = (J.size : Int)) = false := decide_eq_false (by omega)
    have HBS := hid ((bv_size b0).trans hb128)
    have HB0 := hid (show b0 = S.now.getD pk zeroB by rw [hpk]; exact hb0)
    clear h hok hJ hb0 hpk
    go_enter Try.func63, Try.ntmps63
    go_wp2_with fail
    refine wp_region_ord [] [(0, 1), (1, 1), (2, 1), (3, 1), (4, 1), (5, 1), (6, 1), (7, 1), (8, 1)] (fun X => St W0 (Disk p S :: Blk j (jourV p J) 114 :: L) X) (by kernel_rfl) (by kernel_rfl) (fun d _ c _ _ h => by cases d <;> exact h) (HH.out.turn (Below.drew (Below.refl _ _))) (fun X hXe hX => ?_)
    clear hXe y0 y1 y2 y3 y4
    repeat (apply wpOrd_class; ((· first | (rw [List.getElem?_toArray, List.getElem?_cons_zero]; done) | (simp only [List.getElem?_toArray, List.getElem?_cons_succ, List.getElem?_cons_zero]; exact rfl))); (· exact rfl); intro K hK; apply Exists.intro; refine And.intro (fun X' hX' => ?_) ?_; (· obtain ⟨j0, j1, j2, j3, j4⟩ := jour_cells hX'.at2.blk; clear hX'; go_simp; (try go_bits); first | done | exact rfl | exact ⟨rfl, rfl⟩); go_simp; refine hK _ _ ?_; clear hK K)
    refine wpOrd_done ?_
    have HX := hid hX
    clear hX hf1
    go_wp2_with fail
    clear HH
    apply wp_region_fork [15, 16, 18, 19] [(0, 1), (1, 1), (2, 1), (3, 1), (4, 1), (5, 1), (6, 1), (7, 1), (8, 1), (9, 1), (10, 1), (11, 1), (12, 1)] 13 17 [(14, 1), (15, 0), (16, 0), (17, 2), (18, 2), (19, 0)] [(13, 2), (14, 1), (15, 0), (16, 0), (18, 2), (19, 0)] (fun X => St W0 (Disk p S :: Blk j (jourV p J) 114 :: L) X) (fun g X => St W0 (Blk g (bv b0) 33 :: Disk p S :: Blk j (jourV p J) 114 :: L) X) (by kernel_rfl) (by kernel_rfl) (fun d _ c _ _ h => by cases d <;> exact h) (HX.out.turn (Below.drew (Below.refl _ _)))
    case h =>
      intro X hX
      repeat (apply wpOrd_class; ((· first | (rw [List.getElem?_toArray, List.getElem?_cons_zero]; done) | (simp only [List.getElem?_toArray, List.getElem?_cons_succ, List.getElem?_cons_zero]; exact rfl))); (· exact rfl); intro K hK; apply Exists.intro; refine And.intro (fun X' hX' => ?_) ?_; (· obtain ⟨j0, j1, j2, j3, j4⟩ := jour_cells hX'.at2.blk; clear hX'; go_simp; (try go_bits); first | done | exact rfl | exact ⟨rfl, rfl⟩); go_simp; refine hK _ _ ?_; clear hK K)
      refine wpFork_done ⟨?_, ?_⟩
      · (apply wpOrd_comes; ((· first | (rw [List.getElem?_toArray, List.getElem?_cons_zero]; done) | (simp only [List.getElem?_toArray, List.getElem?_cons_succ, List.getElem?_cons_zero]; exact rfl))); intro N hN)
        go_wp2_with (go_at_call 18; (with_reducible refine (HRD.out _ _ hX).mono ?_); rintro r X2 ⟨rfl, hX2⟩)
        refine hN _ _ (fun _ => hX2) ?_
        repeat (apply wpOrd_class; ((· first | (rw [List.getElem?_toArray, List.getElem?_cons_zero]; done) | (simp only [List.getElem?_toArray, List.getElem?_cons_succ, List.getElem?_cons_zero]; exact rfl))); (· exact rfl); intro K hK; apply Exists.intro; refine And.intro (fun X' hX' => ?_) ?_; (· obtain ⟨j0, j1, j2, j3, j4⟩ := jour_cells hX'.at2.blk; clear hX'; go_simp; (try go_bits); first | done | exact rfl | exact ⟨rfl, rfl⟩); go_simp; refine hK _ _ ?_; clear hK K)
        (apply wpOrd_pure; ((· first | (rw [List.getElem?_toArray, List.getElem?_cons_zero]; done) | (simp only [List.getElem?_toArray, List.getElem?_cons_succ, List.getElem?_cons_zero]; exact rfl))); (· exact rfl); intro K hK; apply Exists.intro; refine And.intro (fun X' => ?_) ?_; (· go_simp; (try go_bits); first | done | exact rfl | exact ⟨rfl, rfl⟩); go_simp; refine hK _ _ ?_; clear hK K)
        (apply wpOrd_pure; ((· first | (rw [List.getElem?_toArray, List.getElem?_cons_zero]; done) | (simp only [List.getElem?_toArray, List.getElem?_cons_succ, List.getElem?_cons_zero]; exact rfl))); (· exact rfl); intro K hK; apply Exists.intro; refine And.intro (fun X' => ?_) ?_; (· go_simp; (try go_bits); first | done | exact rfl | exact ⟨rfl, rfl⟩); go_simp; refine hK _ _ ?_; clear hK K)
        (apply wpOrd_comes; ((· first | (rw [List.getElem?_toArray, List.getElem?_cons_zero]; done) | (simp only [List.getElem?_toArray, List.getElem?_cons_succ, List.getElem?_cons_zero]; exact rfl))); intro N hN)
        go_wp2_with (refine wpList_alloc 33 rfl rfl (.agg (bv zeroB)) zero33 ?_; intro gb X3 hB hbl hbg hX3)
        have H3 := hid (hX2.newBlk hX3 hbg hB)
        refine hN _ _ (fun _ => H3.out.drop) ?_
        (apply wpOrd_comes; ((· first | (rw [List.getElem?_toArray, List.getElem?_cons_zero]; done) | (simp only [List.getElem?_toArray, List.getElem?_cons_succ, List.getElem?_cons_zero]; exact rfl))); intro N hN)
        go_wp2_with (refine wpList_store_box 33 _ _ rfl gb rfl rfl (bv b0) rfl 128 size33 HBS.out (bv_one _) 33 _ hB bvz ?_; intro X4 hB4 hT4 hs4)
        refine hN _ _ (fun h => by cases h) ?_
        (apply wpOrd_pure; ((· first | (rw [List.getElem?_toArray, List.getElem?_cons_zero]; done) | (simp only [List.getElem?_toArray, List.getElem?_cons_succ, List.getElem?_cons_zero]; exact rfl))); (· exact rfl); intro K hK; apply Exists.intro; refine And.intro (fun X' => ?_) ?_; (· go_simp; (try go_bits); first | done | exact rfl | exact ⟨rfl, rfl⟩); go_simp; refine hK _ _ ?_; clear hK K)
        exact wpFork_done ⟨gb, (H3.out).put hB4 hT4, rfl⟩
      · (apply wpOrd_comes; ((· first | (rw [List.getElem?_toArray, List.getElem?_cons_zero]; done) | (simp only [List.getElem?_toArray, List.getElem?_cons_succ, List.getElem?_cons_zero]; exact rfl))); intro N hN)
        go_wp2_with (refine wpList_alloc 33 rfl rfl (.agg (bv zeroB)) zero33 ?_; intro gb X3 hB hbl hbg hX3)
        have H3 := hid (hX.newBlk hX3 hbg hB)
        refine hN _ _ (fun _ => H3.out.drop) ?_
        (apply wpOrd_comes; ((· first | (rw [List.getElem?_toArray, List.getElem?_cons_zero]; done) | (simp only [List.getElem?_toArray, List.getElem?_cons_succ, List.getElem?_cons_zero]; exact rfl))); intro N hN)
        go_wp2_with (go_at_call 18; (with_reducible refine (HRD.out _ _ H3.out.at2).mono ?_); rintro r X2 ⟨rfl, hX2⟩)
        have H2 := hid hX2.at2
        clear hX2
        refine hN _ _ (fun _ => H2.out.drop) ?_
        have hX5 := H2.out.drop
        repeat (apply wpOrd_class; ((· first | (rw [List.getElem?_toArray, List.getElem?_cons_zero]; done) | (simp only [List.getElem?_toArray, List.getElem?_cons_succ, List.getElem?_cons_zero]; exact rfl))); (· exact rfl); intro K hK; apply Exists.intro; refine And.intro (fun X' hX' => ?_) ?_; (· obtain ⟨j0, j1, j2, j3, j4⟩ := jour_cells hX'.at2.blk; clear hX'; go_simp; (try go_bits); first | done | exact rfl | exact ⟨rfl, rfl⟩); go_simp; refine hK _ _ ?_; clear hK K)
        (apply wpOrd_pure; ((· first | (rw [List.getElem?_toArray, List.getElem?_cons_zero]; done) | (simp only [List.getElem?_toArray, List.getElem?_cons_succ, List.getElem?_cons_zero]; exact rfl))); (· exact rfl); intro K hK; apply Exists.intro; refine And.intro (fun X' => ?_) ?_; (· go_simp; (try go_bits); first | done | exact rfl | exact ⟨rfl, rfl⟩); go_simp; refine hK _ _ ?_; clear hK K)
        (apply wpOrd_pure; ((· first | (rw [List.getElem?_toArray, List.getElem?_cons_zero]; done) | (simp only [List.getElem?_toArray, List.getElem?_cons_succ, List.getElem?_cons_zero]; exact rfl))); (· exact rfl); intro K hK; apply Exists.intro; refine And.intro (fun X' => ?_) ?_; (· go_simp; (try go_bits); first | done | exact rfl | exact ⟨rfl, rfl⟩); go_simp; refine hK _ _ ?_; clear hK K)
        (apply wpOrd_comes; ((· first | (rw [List.getElem?_toArray, List.getElem?_cons_zero]; done) | (simp only [List.getElem?_toArray, List.getElem?_cons_succ, List.getElem?_cons_zero]; exact rfl))); intro N hN)
        go_wp2_with (refine wpList_store_box 33 _ _ rfl gb rfl rfl (bv b0) rfl 128 size33 HBS.out (bv_one _) 33 _ H2.out.blk bvz ?_; intro X4 hB4 hT4 hs4)
        refine hN _ _ (fun h => by cases h) ?_
        (apply wpOrd_pure; ((· first | (rw [List.getElem?_toArray, List.getElem?_cons_zero]; done) | (simp only [List.getElem?_toArray, List.getElem?_cons_succ, List.getElem?_cons_zero]; exact rfl))); (· exact rfl); intro K hK; apply Exists.intro; refine And.intro (fun X' => ?_) ?_; (· go_simp; (try go_bits); first | done | exact rfl | exact ⟨rfl, rfl⟩); go_simp; refine hK _ _ ?_; clear hK K)
        exact wpFork_done ⟨gb, (H2.out).put hB4 hT4, rfl⟩
    case hC =>
      intro gb X5 hX5
      have H5 := hid hX5
      clear hX5 HX
      obtain ⟨sz, hsz⟩ : ∃ sz, sz = sizeOfB b0 := ⟨_, rfl⟩
      have hsz2 : sz ≤ 65535 := by rw [hsz]; exact size_le b0
      have c9 : X5.cell? ⟨gb, 9, none⟩ = some (.int .u8 (bt b0 9)) := (blk_cell H5.out 9).trans (bv_get _ _ (by omega))
      have c10 : X5.cell? ⟨gb, 10, none⟩ = some (.int .u8 (bt b0 10)) := (blk_cell H5.out 10).trans (bv_get _ _ (by omega))
      have hw9 : wrap64 (bt b0 9) = bt b0 9 := IntWalk.wrap64_in _ (by have := bt_ge b0 9; have := bt_lt b0 9; omega)
      have hw10 : wrap64 (bt b0 10) = bt b0 10 := IntWalk.wrap64_in _ (by have := bt_ge b0 10; have := bt_lt b0 10; omega)
      have hw11 : wrap64 (bt b0 9 * 256) = bt b0 9 * 256 := IntWalk.wrap64_in _ (by have := bt_ge b0 9; have := bt_lt b0 9; omega)
      have hso : bits .or .i64 (bt b0 9 * 256) (bt b0 10) = (sz : Int) := by rw [hsz]; exact size_bytes b0
      obtain ⟨z0, z1, z2, z3, z4⟩ := jour_cells H5.out.at3.blk
      have HBG := hid (show ∀ X, Calls Try.prog 66 #[.int .i64 J.n, .int .i64 sz] X fun r w' => r = .returned (.agg (bv (headZ J.n sz))) ∧ Below X.heap.size X w' from fun X => begin_ok (n := J.n) (s := sz) (by omega) hsz2 X)
      have HHZ := hid ((bv_size (headZ J.n sz)).trans (headZ_len J.n sz))
      have HBK := hid (fun X => (blocks_any (sz : Int) X).mono (fun r w' hx => (⟨by rw [hx.1, blocksI_nat hsz2], hx.2⟩ : r = .returned (.int .i64 (blocksN sz)) ∧ X = w')))
      obtain ⟨nb, hnb⟩ : ∃ nb, nb = blocksN sz := ⟨_, rfl⟩
      have hnb1 : 1 ≤ nb := by rw [hnb]; exact blocksN_pos _
      have hnb2 : nb ≤ 561 := by rw [hnb]; exact blocksN_le hsz2
      have hnb3 : sz ≤ 117 * nb := by rw [hnb]; exact blocksN_fits _
      have HNX := hid (show nextR S.now J = if b0.take 11 = headL J.n sz ∧ nb ≤ J.size - J.used then some ((joinB S.now pk nb).take sz) else none by
        unfold nextR joinB
        rw [if_neg hfull, ← HPK.out, ← HB0.out, ← hsz, ← hnb])
      rw [← hnb] at HBK
      have HE := hid (fun X (gw : Nat) (h : St W0 (Blk gw (bv (headZ J.n sz)) 33 :: Blk gb (bv b0) 33 :: Disk p S :: Blk j (jourV p J) 114 :: L) X) => equal_heads hb128 h)
      clear hsz hnb
      go_wp2_with (first | (go_at_call 66; (with_reducible refine (HBG.out _).mono ?_); rintro r X6 ⟨rfl, hb6⟩; have H6 := hid (H5.out.turn hb6); clear hb6) | (refine wpList_alloc 33 rfl rfl (.agg (bv zeroB)) zero33 ?_; intro gw X7 hB hbl hbg hX7) | (refine wpList_store_box 33 _ _ rfl gw rfl rfl (bv (headZ J.n sz)) rfl 128 size33 HHZ.out (bv_one _) 33 _ hB bvz ?_; intro X8 hB8 hT8 hs8; have H8 := hid ((H6.out.newBlk hX7 hbg hB).put hB8 hT8); clear hB8 hT8 hs8 hB hbl hbg hX7))
      clear H6 HBG HHZ hso hw9 hw10 hw11 c9 c10 z0 z1 z2 z3 z4 H5
      refine wp_region_ord [] [(0, 1), (1, 1), (2, 2), (3, 1), (4, 1), (5, 1), (7, 1), (8, 1), (9, 1), (10, 1), (11, 1), (12, 1), (13, 1), (14, 1), (15, 1), (6, 2), (16, 1), (17, 1)] (fun X => St W0 (Blk gw (bv (headZ J.n sz)) 33 :: Blk gb (bv b0) 33 :: Disk p S :: Blk j (jourV p J) 114 :: L) X) (by kernel_rfl) (by kernel_rfl) (fun d _ c _ _ h => by cases d <;> exact h) (H8.out.turn (Below.drew (Below.refl _ _))) (fun X9 hXe hX => ?_)
      clear hXe H8
      repeat (apply wpOrd_class; ((· first | (rw [List.getElem?_toArray, List.getElem?_cons_zero]; done) | (simp only [List.getElem?_toArray, List.getElem?_cons_succ, List.getElem?_cons_zero]; exact rfl))); (· exact rfl); intro K hK; apply Exists.intro; refine And.intro (fun X' hX' => ?_) ?_; (· obtain ⟨j0, j1, j2, j3, j4⟩ := jour_cells hX'.at4.blk; clear hX'; go_simp; (try go_bits); first | done | exact rfl | exact ⟨rfl, rfl⟩); go_simp; refine hK _ _ ?_; clear hK K)
      (apply wpOrd_comes; ((· first | (rw [List.getElem?_toArray, List.getElem?_cons_zero]; done) | (simp only [List.getElem?_toArray, List.getElem?_cons_succ, List.getElem?_cons_zero]; exact rfl))); intro N hN)
      go_wp2_with (go_at_call 67; (with_reducible refine (HE.out _ _ hX).mono ?_); rintro r X10 ⟨rfl, rfl⟩)
      refine hN _ _ (fun _ => hX) ?_
      clear hN N HE
      cases hE : (b0.take 11 == headL J.n sz)
      · have HNX := hid (HNX.out.trans (if_neg (by rintro ⟨h, _⟩; rw [h] at hE; simp at hE)))
        clear hE
        repeat (first | (apply wpOrd_class; ((· first | (rw [List.getElem?_toArray, List.getElem?_cons_zero]; done) | (simp only [List.getElem?_toArray, List.getElem?_cons_succ, List.getElem?_cons_zero]; exact rfl))); (· exact rfl); intro K hK; apply Exists.intro; refine And.intro (fun X' hX' => ?_) ?_; (· obtain ⟨j0, j1, j2, j3, j4⟩ := jour_cells hX'.at4.blk; clear hX'; go_simp; (try go_bits); first | done | exact rfl | exact ⟨rfl, rfl⟩); go_simp; refine hK _ _ ?_; clear hK K) | (apply wpOrd_skip1; ((· first | (rw [List.getElem?_toArray, List.getElem?_cons_zero]; done) | (simp only [List.getElem?_toArray, List.getElem?_cons_succ, List.getElem?_cons_zero]; exact rfl))); (· exact rfl); intro K hK; go_simp; refine hK _ _ ?_; clear hK K))
        (apply wpOrd_comes; ((· first | (rw [List.getElem?_toArray, List.getElem?_cons_zero]; done) | (simp only [List.getElem?_toArray, List.getElem?_cons_succ, List.getElem?_cons_zero]; exact rfl))); intro N hN)
        go_wp2_with fail
        refine hN _ _ (fun _ => hX) ?_
        repeat (first | (apply wpOrd_class; ((· first | (rw [List.getElem?_toArray, List.getElem?_cons_zero]; done) | (simp only [List.getElem?_toArray, List.getElem?_cons_succ, List.getElem?_cons_zero]; exact rfl))); (· exact rfl); intro K hK; apply Exists.intro; refine And.intro (fun X' hX' => ?_) ?_; (· obtain ⟨j0, j1, j2, j3, j4⟩ := jour_cells hX'.at4.blk; clear hX'; go_simp; (try go_bits); first | done | exact rfl | exact ⟨rfl, rfl⟩); go_simp; refine hK _ _ ?_; clear hK K) | (apply wpOrd_skip1; ((· first | (rw [List.getElem?_toArray, List.getElem?_cons_zero]; done) | (simp only [List.getElem?_toArray, List.getElem?_cons_succ, List.getElem?_cons_zero]; exact rfl))); (· exact rfl); intro K hK; go_simp; refine hK _ _ ?_; clear hK K))
        refine wpOrd_done ?_
        have HX := hid hX
        clear hX
        go_wp2_with fail
        go_ret3
        rw [HNX.out]
        exact ⟨rfl, HX.out.drop.drop⟩
      · have hE' : b0.take 11 = headL J.n sz := by simpa using hE
        clear hE
        repeat (first | (apply wpOrd_class; ((· first | (rw [List.getElem?_toArray, List.getElem?_cons_zero]; done) | (simp only [List.getElem?_toArray, List.getElem?_cons_succ, List.getElem?_cons_zero]; exact rfl))); (· exact rfl); intro K hK; apply Exists.intro; refine And.intro (fun X' hX' => ?_) ?_; (· obtain ⟨j0, j1, j2, j3, j4⟩ := jour_cells hX'.at4.blk; clear hX'; go_simp; (try go_bits); first | done | exact rfl | exact ⟨rfl, rfl⟩); go_simp; refine hK _ _ ?_; clear hK K) | (apply wpOrd_skip1; ((· first | (rw [List.getElem?_toArray, List.getElem?_cons_zero]; done) | (simp only [List.getElem?_toArray, List.getElem?_cons_succ, List.getElem?_cons_zero]; exact rfl))); (· exact rfl); intro K hK; go_simp; refine hK _ _ ?_; clear hK K))
        (apply wpOrd_comes; ((· first | (rw [List.getElem?_toArray, List.getElem?_cons_zero]; done) | (simp only [List.getElem?_toArray, List.getElem?_cons_succ, List.getElem?_cons_zero]; exact rfl))); intro N hN)
        go_wp2_with (go_at_call 48; (with_reducible refine (HBK.out _).mono ?_); rintro r w1 ⟨rfl, rfl⟩)
        refine hN _ _ (fun _ => hX) ?_
        clear hN N
        by_cases hfit : nb ≤ J.size - J.used
        rotate_left
        · have HNX := hid (HNX.out.trans (if_neg (by rintro ⟨_, h⟩; exact hfit h)))
          have hf1 : decide ((J.size : Int) - (J.used : Int) < (nb : Int)) = true := decide_eq_true (by omega)
          repeat (apply wpOrd_class; ((· first | (rw [List.getElem?_toArray, List.getElem?_cons_zero]; done) | (simp only [List.getElem?_toArray, List.getElem?_cons_succ, List.getElem?_cons_zero]; exact rfl))); (· exact rfl); intro K hK; apply Exists.intro; refine And.intro (fun X' hX' => ?_) ?_; (· obtain ⟨j0, j1, j2, j3, j4⟩ := jour_cells hX'.at4.blk; clear hX'; go_simp; (try go_bits); first | done | exact rfl | exact ⟨rfl, rfl⟩); go_simp; refine hK _ _ ?_; clear hK K)
          refine wpOrd_done ?_
          have HX := hid hX
          clear hX hf1
          go_wp2_with fail
          go_ret3
          rw [HNX.out]
          exact ⟨rfl, HX.out.drop.drop⟩
        · have HNX := hid (HNX.out.trans (if_pos ⟨hE', hfit⟩))
          have hf1 : decide ((J.size : Int) - (J.used : Int) < (nb : Int)) = false := decide_eq_false (by omega)
          repeat (apply wpOrd_class; ((· first | (rw [List.getElem?_toArray, List.getElem?_cons_zero]; done) | (simp only [List.getElem?_toArray, List.getElem?_cons_succ, List.getElem?_cons_zero]; exact rfl))); (· exact rfl); intro K hK; apply Exists.intro; refine And.intro (fun X' hX' => ?_) ?_; (· obtain ⟨j0, j1, j2, j3, j4⟩ := jour_cells hX'.at4.blk; clear hX'; go_simp; (try go_bits); first | done | exact rfl | exact ⟨rfl, rfl⟩); go_simp; refine hK _ _ ?_; clear hK K)
          refine wpOrd_done ?_
          have HX := hid hX.drop
          clear hX hf1 hE'
          obtain ⟨i5, hi, hiz, his, hib⟩ := info_parts info5
          have HI := hid (And.intro hi (And.intro hiz (And.intro his hib)))
          clear hi hiz his hib
          have HJ1 := hid (show bvL (joinB S.now pk 1) = [] ++ bvL (b0.drop 11) by rw [joinB_one, ← HB0.out]; rfl)
          have HDL := hid (show (bvL (b0.drop 11)).length = 117 * 1 by rw [bvL_len, List.length_drop, hb128])
          go_wp2_with (first | (refine wpList_buildSlice0 rfl rfl Try.underlying22 be5.size ?_; intro gs X12 hS hgs hges hX12; have H12 := hid (HX.out.newRow0 (e := 5) (s := 1) hX12 hges hS); have HNW := hid (blk_tail H12.out.at2); clear hS hgs hges hX12) | (refine wpList_append_at _ _ _ rfl (.slice (some ⟨gs, 0, none⟩) 0 0) rfl ⟨gb, 11, none⟩ 117 117 rfl rfl 5 i5 (.int .u8 0) 1 1 Try.underlying22 HI.out.1 HI.out.2.1 HI.out.2.2.1 HI.out.2.2.2 rfl (by decide) 0 [] H12.out.row (bvL (b0.drop 11)) HDL.out HNW.out (bvL_one _) (by unfold maxLen; omega) (by omega) ?_; intro v' X13 hO hT hfr; have H13 := hid (H12.out.grow hO hT hfr); clear hO hT hfr))
          rw [← HJ1.out] at H13
          have H13 := hid (show St W0 (Row v' 5 1 117 (bvL (joinB S.now pk 1)) :: Blk gb (bv b0) 33 :: Disk p S :: Blk j (jourV p J) 114 :: L) X13 from H13.out)
          obtain ⟨A, c, rfl, _⟩ := row_slice H13.out
          clear H12 HNW HX HJ1 HDL
          go_loopw [6, 9, 10] (fun er v k X => ∃ (n : Nat) (A : Option Addr) (c : Nat) (bx : Bk), 1 ≤ n ∧ n ≤ nb ∧ er = .int .i64 0 ∧ k = .int .i64 n ∧ v = .slice A (117 * n) c ∧ bx.length = 128 ∧ Hid (St W0 (Row (.slice A (117 * n) c) 5 1 (117 * n) (bvL (joinB S.now pk n)) :: Blk gb (bv bx) 33 :: Disk p S :: Blk j (jourV p J) 114 :: L) X)) (fun _ _ k _ => nb - (intOf k).toNat)
          case atStart => exact ⟨1, A, c, b0, Nat.le_refl _, hnb1, rfl, rfl, rfl, hb128, H13⟩
          case round =>
            clear H13
            obtain ⟨n, A, c, bx, hn1, hn2, rfl, rfl, rfl, hbx, HS⟩ := hrel
            by_cases hlt : n < nb
            · have e1 : (n : Int) < (nb : Int) := by omega
              obtain ⟨bq, hbq⟩ : ∃ bq, bq = S.now.getD (pk + n) zeroB := ⟨_, rfl⟩
              have hbq2 : bq.length = 128 := by rw [hbq]; exact full_getD HOK.out.now _
              have HRK := hid (show ∀ (X : World) (L' : List Atm), St W0 (Disk p S :: L') X → Calls Try.prog 18 #[.pointer (some ⟨p, 0, none⟩), .int .i64 ((pk : Int) + (n : Int))] X fun x X' => x = .returned (.tuple #[.agg (bv bq), .int .i64 0]) ∧ St W0 (Disk p S :: L') X' from fun X L' hX => by
                have hpk2 := HPK.out
                have hat : S.at_ ((pk + n : Nat) : Int) = 0 := by rw [at_in (by omega), hoff]; rfl
                refine (read_rd (i := ((pk + n : Nat) : Int)) hX HOK.out).mono fun r X' hx => ⟨by rw [hx.1, hat, hbq]; unfold DS.rd; rw [if_pos hat, Int.toNat_natCast], hx.2⟩)
              have HJN := hid (show bvL (joinB S.now pk (n + 1)) = bvL (joinB S.now pk n) ++ bvL (bq.drop 11) by rw [joinB_succ, ← hbq]; unfold bvL; rw [List.map_append])
              have HDL := hid (show (bvL (bq.drop 11)).length = 117 * 1 by rw [bvL_len, List.length_drop, hbq2])
              have HBQ := hid ((bv_size bq).trans hbq2)
              have HBX := hid ((bv_size bx).trans hbx)
              clear hbq
              go_wp2_with (go_at_call 48; (with_reducible refine (HBK.out _).mono ?_); rintro r w1 ⟨rfl, rfl⟩)
              refine wp_region_ord [] [(0, 1), (1, 1), (2, 1), (3, 1), (4, 1), (5, 1), (6, 1), (7, 1), (8, 1), (9, 1), (10, 1), (11, 1), (12, 1), (13, 1), (14, 1), (15, 2), (16, 1), (17, 1), (18, 1), (19, 2), (20, 1)] (fun X => St W0 (Row (.slice A (117 * n) c) 5 1 (117 * n) (bvL (joinB S.now pk n)) :: Disk p S :: Blk j (jourV p J) 114 :: L) X) (by kernel_rfl) (by kernel_rfl) (fun d _ c _ _ h => by cases d <;> exact h) (HS.out.drop2.turn (Below.drew (Below.refl _ _))) (fun X hXe _ => ?_)
              have HX := hid (show St W0 (Row (.slice A (117 * n) c) 5 1 (117 * n) (bvL (joinB S.now pk n)) :: Blk gb (bv bx) 33 :: Disk p S :: Blk j (jourV p J) 114 :: L) X from by rw [hXe]; exact HS.out.turn (Below.drew (Below.refl _ _)))
              clear hXe HS
              repeat (apply wpOrd_class; ((· first | (rw [List.getElem?_toArray, List.getElem?_cons_zero]; done) | (simp only [List.getElem?_toArray, List.getElem?_cons_succ, List.getElem?_cons_zero]; exact rfl))); (· exact rfl); intro K hK; apply Exists.intro; refine And.intro (fun X' hX' => ?_) ?_; (· obtain ⟨j0, j1, j2, j3, j4⟩ := jour_cells hX'.at3.blk; clear hX'; go_simp; (try go_bits); first | done | exact rfl | exact ⟨rfl, rfl⟩); go_simp; refine hK _ _ ?_; clear hK K)
              (apply wpOrd_comes; ((· first | (rw [List.getElem?_toArray, List.getElem?_cons_zero]; done) | (simp only [List.getElem?_toArray, List.getElem?_cons_succ, List.getElem?_cons_zero]; exact rfl))); intro N hN)
              go_wp2_with (go_at_call 18; (with_reducible refine (HRK.out _ _ HX.out.at3).mono ?_); rintro r X2 ⟨rfl, hX2⟩)
              have H2 := hid hX2.back3
              clear hX2 HX
              refine hN _ _ (fun _ => H2.out.drop2) ?_
              clear hN N
              repeat (apply wpOrd_class; ((· first | (rw [List.getElem?_toArray, List.getElem?_cons_zero]; done) | (simp only [List.getElem?_toArray, List.getElem?_cons_succ, List.getElem?_cons_zero]; exact rfl))); (· exact rfl); intro K hK; apply Exists.intro; refine And.intro (fun X' hX' => ?_) ?_; (· obtain ⟨j0, j1, j2, j3, j4⟩ := jour_cells hX'.at3.blk; clear hX'; go_simp; (try go_bits); first | done | exact rfl | exact ⟨rfl, rfl⟩); go_simp; refine hK _ _ ?_; clear hK K)
              (apply wpOrd_comes; ((· first | (rw [List.getElem?_toArray, List.getElem?_cons_zero]; done) | (simp only [List.getElem?_toArray, List.getElem?_cons_succ, List.getElem?_cons_zero]; exact rfl))); intro N hN)
              go_wp2_with (refine wpList_store_box 33 _ _ rfl gb rfl rfl (bv bq) rfl 128 size33 HBQ.out (bv_one _) 33 _ H2.out.at2.blk HBX.out ?_; intro X4 hB4 hT4 hs4)
              have H4 := hid (H2.out.at2.put hB4 hT4).at2
              clear hB4 hT4 hs4 H2
              refine hN _ _ (fun _ => H4.out.drop2) ?_
              clear hN N
              repeat (apply wpOrd_class; ((· first | (rw [List.getElem?_toArray, List.getElem?_cons_zero]; done) | (simp only [List.getElem?_toArray, List.getElem?_cons_succ, List.getElem?_cons_zero]; exact rfl))); (· exact rfl); intro K hK; apply Exists.intro; refine And.intro (fun X' hX' => ?_) ?_; (· obtain ⟨j0, j1, j2, j3, j4⟩ := jour_cells hX'.at3.blk; clear hX'; go_simp; (try go_bits); first | done | exact rfl | exact ⟨rfl, rfl⟩); go_simp; refine hK _ _ ?_; clear hK K)
              refine wpOrd_done ?_
              have HNW := hid (blk_tail H4.out.at2)
              go_wp2_with (refine wpList_append_at _ _ _ rfl (.slice A (117 * n) c) rfl ⟨gb, 11, none⟩ 117 117 rfl rfl 5 i5 (.int .u8 0) 1 1 Try.underlying22 HI.out.1 HI.out.2.1 HI.out.2.2.1 HI.out.2.2.2 rfl (by decide) (117 * n) (bvL (joinB S.now pk n)) H4.out.row (bvL (bq.drop 11)) HDL.out HNW.out (bvL_one _) (by unfold maxLen; omega) (by omega) ?_; intro v' X5 hO hT hfr; have H6 := hid (H4.out.grow hO hT hfr); clear hO hT hfr)
              rw [← HJN.out] at H6
              obtain ⟨A2, c2, rfl, _⟩ := row_slice H6.out
              go_roundw
              case rel => exact ⟨n + 1, A2, c2, bq, by omega, by omega, rfl, by go_num, rfl, hbq2, H6⟩
              case measure => simp [intOf]; omega
            · have e1 : ¬ (n : Int) < (nb : Int) := by omega
              obtain rfl : n = nb := by omega
              obtain ⟨R, hR⟩ : ∃ R, R = joinB S.now pk n := ⟨_, rfl⟩
              have hRl : R.length = 117 * n := by rw [hR]; exact joinB_len HOK.out.now _ _
              rw [← hR] at HS HNX
              have hts : (R.take sz).length = sz := by rw [List.length_take, hRl]; omega
              have HCR := hid (HS.out.drop2.cut_row (bs := R) (s := sz) rfl hnb3 (by omega))
              have hcap : 117 * n ≤ c := by
                rcases HS.out.row.2 with ⟨_, h0⟩ | ⟨g, cap, cur, hv, _, _, hc, _⟩
                · omega
                · injection hv with _ _ e3
                  omega
              have hcap2 : sz ≤ c := by omega
              clear hR HS
              go_wp2_with (go_at_call 48; (with_reducible refine (HBK.out _).mono ?_); rintro r w1 ⟨rfl, rfl⟩)
              go_ret3
              rw [HNX.out]
              refine ⟨A, ?_, by omega, ?_⟩
              · rw [hts]; rfl
              · rw [hts]; exact HCR.out
end
end Go.Proofs.Ythmchbdhikakhaa
