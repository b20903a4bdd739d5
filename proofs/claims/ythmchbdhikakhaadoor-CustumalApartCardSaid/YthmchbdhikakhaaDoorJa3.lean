/- Part 3 of the texts below this law, put together: what each holds is said at its head. -/
import Derived.Test.YthmchbdhikakhaaDoorJa2
import Derived.Lib.Bytes
import Derived.Laws.Bits64b
import Derived.Laws.BitsLemmas
import Derived.ArgAppend
/- The blocks behind the head are written. -/
namespace Go.Proofs.YthmchbdhikakhaaDoor
open Go.RowKit Go.Cu
/-- The cells of a journal. -/
def jourV (p : Nat) (J : Jn) : Array Value := #[.pointer (some ⟨p, 0, none⟩), .int .i64 J.first, .int .i64 J.size, .int .i64 J.used, .int .i64 J.n]
theorem jour_cells {W : World} {j p : Nat} {J : Jn} (h : W.heap[j]? = some (.cells (jourV p J) 58 (0, 0))) :
    W.cell? ⟨j, 0, none⟩ = some (.pointer (some ⟨p, 0, none⟩)) ∧ W.cell? ⟨j, 1, none⟩ = some (.int .i64 J.first) ∧ W.cell? ⟨j, 2, none⟩ = some (.int .i64 J.size) ∧ W.cell? ⟨j, 3, none⟩ = some (.int .i64 J.used) ∧ W.cell? ⟨j, 4, none⟩ = some (.int .i64 J.n) :=
  ⟨(cell_of_row W j 0 _ _ _ h).trans rfl, (cell_of_row W j 1 _ _ _ h).trans rfl, (cell_of_row W j 2 _ _ _ h).trans rfl, (cell_of_row W j 3 _ _ _ h).trans rfl, (cell_of_row W j 4 _ _ _ h).trans rfl⟩
structure _root_.Go.Cu.Jn.Ok (J : Jn) (n : Nat) : Prop where
  fits : J.first + J.size ≤ n
  used : J.used ≤ J.size
  few : J.n ≤ J.used
  big : n ≤ 8192
section
variable {W0 W : World} {L : List Atm} {p j : Nat} {S : DS} {N : Nat} {J : Jn}
set_option maxRecDepth 20000 in
set_option maxHeartbeats 4000000 in
theorem tail_st (h : St W0 (Disk p S :: Blk j (jourV p J) 58 :: L) W) (hok : S.Ok N) (hJ : J.Ok S.now.length) (hN : N + 600 ≤ 1000000) {rec : List UInt8} {A : Option Addr} {c : Nat} (hrec : ∀ X, St W0 L X → BytesIn X A rec) (hl : rec.length ≤ 65535) (hc : rec.length ≤ c) (hc2 : c ≤ maxLen) :
    Calls Tryd.prog 18 #[.pointer (some ⟨j, 0, none⟩), .slice A rec.length c] W fun r w' => r = .returned (.int .i64 (S.tailA J rec).2) ∧ St W0 (Disk p (S.tailA J rec).1 :: Blk j (jourV p J) 58 :: L) w' := by
  obtain ⟨nb, hnb⟩ : ∃ nb, nb = blocksN rec.length := ⟨_, rfl⟩
  have HBK := hid (fun X => (blocks_any (rec.length : Int) X).mono (fun r w' hx => (⟨by rw [hx.1, blocksI_nat hl, ← hnb], hx.2⟩ : r = .returned (.int .i64 nb) ∧ X = w')))
  have hnb1 : 1 ≤ nb := by rw [hnb]; exact blocksN_pos _
  have hnb2 : nb ≤ 561 := by rw [hnb]; exact blocksN_le hl
  have h1 := hJ.fits
  have h2 := hJ.used
  have h3 := hJ.few
  have h4 := hJ.big
  have HNB := hid hnb
  have HH := hid h
  have HOK := hid hok
  have HBL := hid (fun (k : Nat) (X : World) (hk : k < nb) (hX : St W0 L X) => block_any (n := J.n) (k := k) (hrec X hX) (by omega) hl hc hc2 (by rw [← hnb]; exact hk))
  obtain ⟨R, hR⟩ : ∃ R, R = S.tailS J rec (nb - 1) 1 := ⟨_, rfl⟩
  have HTA := hid (show S.tailA J rec = if R.2 ≠ 0 then R else if nb = 1 then (R.1, 0) else R.1.sync by rw [hR, hnb]; rfl)
  have HR := hid hR
  clear h hok hJ hrec hnb hR hc hc2
  go_enter Tryd.func18, Tryd.ntmps18
  go_wp2_with (go_at_call 17; (with_reducible refine (HBK.out _).mono ?_); rintro r w1 ⟨rfl, rfl⟩)
  go_loopw [6] (fun v X => ∃ k : Nat, 1 ≤ k ∧ k ≤ nb ∧ v = .int .i64 k ∧ ∃ T : DS, Hid (T.tailS J rec (nb - k) k = R) ∧ Hid (T.Ok (N + k)) ∧ Hid (St W0 (Disk p T :: Blk j (jourV p J) 58 :: L) X)) (fun v _ => nb - (intOf v).toNat)
  case atStart => exact ⟨1, by omega, by omega, rfl, S, hid HR.out.symm, hid (HOK.out.mono (by omega)), HH⟩
  case round =>
    clear HH
    obtain ⟨k, hk1, hk2, rfl, T, HZ, HTO, HS⟩ := hrel
    by_cases hlt : k < nb
    · have e1 : (k : Int) < (nb : Int) := by omega
      obtain ⟨m, hm⟩ : ∃ m, nb - k = m + 1 := ⟨nb - k - 1, by omega⟩
      rw [hm] at HZ
      have HM := hid (show nb - (k + 1) = m by omega)
      obtain ⟨pk, hpk⟩ : ∃ pk : Nat, pk = J.first + J.used + k := ⟨_, rfl⟩
      have epk : (J.first : Int) + (J.used : Int) + (k : Int) = (pk : Int) := by omega
      have HPK := hid hpk
      clear hm hpk
      by_cases ha : (T.write (pk : Int) (blockB J.n k rec)).2 = 0
      · have HA0 := hid ha
        have HW := hid (show ∀ X, St W0 (Disk p T :: Blk j (jourV p J) 58 :: L) X → Calls Tryd.prog 19 #[.pointer (some ⟨p, 0, none⟩), .int .i64 pk, .agg (bv (blockB J.n k rec))] X fun r X' => r = .returned (.int .i64 0) ∧ St W0 (Disk p (T.write (pk : Int) (blockB J.n k rec)).1 :: Blk j (jourV p J) 58 :: L) X' from fun X h => (write_st h HTO.out (by omega) _ (blockB_len _ _ _)).mono fun r X' hx => ⟨by rw [hx.1, ha], hx.2⟩)
        clear ha
        go_wp2_with fail
        refine wp_region_ord [22, 23] [(0, 1), (1, 1), (2, 1), (3, 1), (4, 1), (5, 1), (6, 1), (7, 1), (8, 1), (9, 1), (10, 1), (11, 1), (12, 1), (13, 1), (14, 1), (15, 1), (16, 1), (17, 1), (18, 1), (19, 1), (20, 1), (21, 2), (22, 2), (23, 0)] (fun X => St W0 (Disk p T :: Blk j (jourV p J) 58 :: L) X) (by kernel_rfl) (by kernel_rfl) (fun d _ c _ _ h => by cases d <;> exact h) (HS.out.turn (Below.drew (Below.refl _ _))) (fun X hXe hX => ?_)
        clear hXe
        repeat (apply wpOrd_class; ((· first | (rw [List.getElem?_toArray, List.getElem?_cons_zero]; done) | (simp only [List.getElem?_toArray, List.getElem?_cons_succ, List.getElem?_cons_zero]; exact rfl))); (· exact rfl); intro K hK; apply Exists.intro; refine And.intro (fun X' hX' => ?_) ?_; (· obtain ⟨j0, j1, j2, j3, j4⟩ := jour_cells hX'.at2.blk; clear hX'; go_simp; (try go_bits); first | done | exact rfl | exact ⟨rfl, rfl⟩); go_simp; refine hK _ _ ?_; clear hK K)
        (apply wpOrd_comes; ((· first | (rw [List.getElem?_toArray, List.getElem?_cons_zero]; done) | (simp only [List.getElem?_toArray, List.getElem?_cons_succ, List.getElem?_cons_zero]; exact rfl))); intro N hN)
        go_wp2_with (go_at_call 20; (with_reducible refine (HBL.out k _ hlt hX.drop.drop).mono ?_); rintro r X2 ⟨rfl, hb⟩; have hX2 := hX.turn hb; clear hb)
        refine hN _ _ (fun _ => hX2) ?_
        clear hN
        (apply wpOrd_comes; ((· first | (rw [List.getElem?_toArray, List.getElem?_cons_zero]; done) | (simp only [List.getElem?_toArray, List.getElem?_cons_succ, List.getElem?_cons_zero]; exact rfl))); intro N hN)
        go_wp2_with (go_at_call 19; (with_reducible refine (HW.out _ hX2).mono ?_); rintro r X3 ⟨rfl, hs3⟩; have H3 := hid hs3; clear hs3)
        refine hN _ _ (fun h => by cases h) ?_
        clear hN
        (apply wpOrd_pure; ((· first | (rw [List.getElem?_toArray, List.getElem?_cons_zero]; done) | (simp only [List.getElem?_toArray, List.getElem?_cons_succ, List.getElem?_cons_zero]; exact rfl))); (· exact rfl); intro K hK; apply Exists.intro; refine And.intro (fun X' => ?_) ?_; (· go_simp; (try go_bits); first | done | exact rfl | exact ⟨rfl, rfl⟩); go_simp; refine hK _ _ ?_; clear hK K)
        refine wpOrd_done ?_
        clear hX hX2
        go_wp2_with fail
        go_roundw
        case rel => exact ⟨k + 1, by omega, by omega, by go_num, (T.write (pk : Int) (blockB J.n k rec)).1, hid (by rw [HM.out]; have := HZ.out; rw [tailS_go (by rw [← HPK.out]; exact HA0.out), ← HPK.out] at this; exact this), hid (HTO.out.write _ (blockB_len _ _ _)), H3⟩
        case measure => simp [intOf]; omega
      · have HA0 := hid ha
        obtain ⟨e, he⟩ : ∃ e, e = (T.write (pk : Int) (blockB J.n k rec)).2 := ⟨_, rfl⟩
        rw [← he] at ha
        have hne : (e != 0) = true := by simpa using ha
        have HW := hid (show ∀ X, St W0 (Disk p T :: Blk j (jourV p J) 58 :: L) X → Calls Tryd.prog 19 #[.pointer (some ⟨p, 0, none⟩), .int .i64 pk, .agg (bv (blockB J.n k rec))] X fun r X' => r = .returned (.int .i64 e) ∧ St W0 (Disk p (T.write (pk : Int) (blockB J.n k rec)).1 :: Blk j (jourV p J) 58 :: L) X' from fun X h => (write_st h HTO.out (by omega) _ (blockB_len _ _ _)).mono fun r X' hx => ⟨by rw [hx.1, he], hx.2⟩)
        have HE := hid he
        have HEN := hid ha
        clear ha he
        go_wp2_with fail
        refine wp_region_ord [22, 23] [(0, 1), (1, 1), (2, 1), (3, 1), (4, 1), (5, 1), (6, 1), (7, 1), (8, 1), (9, 1), (10, 1), (11, 1), (12, 1), (13, 1), (14, 1), (15, 1), (16, 1), (17, 1), (18, 1), (19, 1), (20, 1), (21, 2), (22, 2), (23, 0)] (fun X => St W0 (Disk p T :: Blk j (jourV p J) 58 :: L) X) (by kernel_rfl) (by kernel_rfl) (fun d _ c _ _ h => by cases d <;> exact h) (HS.out.turn (Below.drew (Below.refl _ _))) (fun X hXe hX => ?_)
        clear hXe
        repeat (apply wpOrd_class; ((· first | (rw [List.getElem?_toArray, List.getElem?_cons_zero]; done) | (simp only [List.getElem?_toArray, List.getElem?_cons_succ, List.getElem?_cons_zero]; exact rfl))); (· exact rfl); intro K hK; apply Exists.intro; refine And.intro (fun X' hX' => ?_) ?_; (· obtain ⟨j0, j1, j2, j3, j4⟩ := jour_cells hX'.at2.blk; clear hX'; go_simp; (try go_bits); first | done | exact rfl | exact ⟨rfl, rfl⟩); go_simp; refine hK _ _ ?_; clear hK K)
        (apply wpOrd_comes; ((· first | (rw [List.getElem?_toArray, List.getElem?_cons_zero]; done) | (simp only [List.getElem?_toArray, List.getElem?_cons_succ, List.getElem?_cons_zero]; exact rfl))); intro N hN)
        go_wp2_with (go_at_call 20; (with_reducible refine (HBL.out k _ hlt hX.drop.drop).mono ?_); rintro r X2 ⟨rfl, hb⟩; have hX2 := hX.turn hb; clear hb)
        refine hN _ _ (fun _ => hX2) ?_
        clear hN
        (apply wpOrd_comes; ((· first | (rw [List.getElem?_toArray, List.getElem?_cons_zero]; done) | (simp only [List.getElem?_toArray, List.getElem?_cons_succ, List.getElem?_cons_zero]; exact rfl))); intro N hN)
        go_wp2_with (go_at_call 19; (with_reducible refine (HW.out _ hX2).mono ?_); rintro r X3 ⟨rfl, hs3⟩; have H3 := hid hs3; clear hs3)
        refine hN _ _ (fun h => by cases h) ?_
        clear hN
        (apply wpOrd_pure; ((· first | (rw [List.getElem?_toArray, List.getElem?_cons_zero]; done) | (simp only [List.getElem?_toArray, List.getElem?_cons_succ, List.getElem?_cons_zero]; exact rfl))); (· exact rfl); intro K hK; apply Exists.intro; refine And.intro (fun X' => ?_) ?_; (· go_simp; (try go_bits); first | done | exact rfl | exact ⟨rfl, rfl⟩); go_simp; refine hK _ _ ?_; clear hK K)
        refine wpOrd_done ?_
        clear hX hX2
        go_wp2_with fail
        go_ret
        have hz := HZ.out
        rw [tailS_stop (by rw [← HPK.out]; exact HA0.out), ← HPK.out] at hz
        have ht := HTA.out
        rw [← hz, if_pos HA0.out] at ht
        rw [ht, HE.out]
        exact ⟨rfl, H3.out⟩
    · have e1 : ¬ (k : Int) < (nb : Int) := by omega
      have HE := hid (show (T, (0 : Int)) = R by have := HZ.out; rw [show nb - k = 0 by omega] at this; exact this)
      obtain ⟨y0, y1, y2, y3, y4⟩ := jour_cells HS.out.at2.blk
      clear y1 y2 y3 y4
      by_cases hone : nb = 1
      · have e2 : (nb : Int) = 1 := by omega
        have HT1 := hid (show S.tailA J rec = (T, 0) by rw [HTA.out, ← HE.out, if_neg (by simp), if_pos hone])
        have e3 : ((nb : Int) == 1) = true := by simpa using e2
        clear e2 hone
        go_wp2_with fail
        go_ret
        rw [HT1.out]
        exact ⟨rfl, HS.out⟩
      · have e3 : ((nb : Int) == 1) = false := by rw [beq_eq_false_iff_ne]; omega
        have HT1 := hid (show S.tailA J rec = T.sync by rw [HTA.out, ← HE.out, if_neg (by simp), if_neg hone])
        clear hone
        go_wp2_with (go_at_call 21; (with_reducible refine (sync_st HS.out HTO.out (by omega)).mono ?_); rintro r w2 ⟨rfl, hs2⟩; have H2 := hid hs2; clear hs2)
        go_ret
        rw [HT1.out]
        exact ⟨rfl, H2.out⟩
end
end Go.Proofs.YthmchbdhikakhaaDoor
/- Append. -/
namespace Go.Proofs.YthmchbdhikakhaaDoor
open Go.RowKit Go.Cu
theorem append_nil {v : Value} (w : World) : Calls Tryd.prog 9 #[.pointer none, v] w fun r w' => r = .returned (.int .i64 1) ∧ w = w' := by
  go_enter Tryd.func9, Tryd.ntmps9
  go_wp2
  go_ret
  exact ⟨rfl, rfl⟩
theorem tailS_ok {J : Jn} {rec : List UInt8} : ∀ (m k : Nat) {S : DS} {N : Nat}, S.Ok N → (S.tailS J rec m k).1.Ok (N + m)
  | 0, _, _, _, h => h
  | m + 1, k, S, N, h => by
    unfold DS.tailS
    split
    · exact (h.write _ (blockB_len _ _ _)).mono (by omega)
    · exact (tailS_ok m (k + 1) (h.write _ (blockB_len _ _ _))).mono (by omega)
theorem tailA_ok {S : DS} {N : Nat} (h : S.Ok N) (J : Jn) (rec : List UInt8) {nb : Nat} (hnb : nb = blocksN rec.length) (h2 : nb ≤ 561) : (S.tailA J rec).1.Ok (N + 600) := by
  have h1 := tailS_ok (J := J) (rec := rec) (blocksN rec.length - 1) 1 h
  unfold DS.tailA
  split
  · exact h1.mono (by omega)
  · split
    · exact h1.mono (by omega)
    · exact h1.sync.mono (by omega)
/-- A journal behind an append. -/
def _root_.Go.Cu.Jn.after (J : Jn) (e : Int) (len : Nat) : Jn := if e = 0 then J.more len else J
section
variable {W0 W : World} {L : List Atm} {p j : Nat} {S : DS} {M0 : Nat} {J : Jn}
set_option maxRecDepth 20000 in
set_option maxHeartbeats 1000000 in
theorem append_big {rec : List UInt8} {A : Option Addr} {c : Nat} (hl : 65535 < rec.length) (hlm : rec.length ≤ maxLen) (w : World) :
    Calls Tryd.prog 9 #[.pointer (some ⟨j, 0, none⟩), .slice A rec.length c] w fun r w' => r = .returned (.int .i64 5) ∧ w = w' := by
  unfold maxLen at hlm
  go_enter Tryd.func9, Tryd.ntmps9
  go_wp2
  go_ret
  exact ⟨rfl, rfl⟩
set_option maxRecDepth 20000 in
set_option maxHeartbeats 8000000 in
theorem append_st (h : St W0 (Disk p S :: Blk j (jourV p J) 58 :: L) W) (hok : S.Ok M0) (hJ : J.Ok S.now.length) (hM : M0 + 700 ≤ 1000000) {rec : List UInt8} {A : Option Addr} {c : Nat} (hrec : ∀ X, St W0 L X → BytesIn X A rec) (hl : rec.length ≤ 65535) (hc : rec.length ≤ c) (hc2 : c ≤ maxLen) :
    Calls Tryd.prog 9 #[.pointer (some ⟨j, 0, none⟩), .slice A rec.length c] W fun r w' => r = .returned (.int .i64 (S.append J rec).2) ∧ St W0 (Disk p (S.append J rec).1 :: Blk j (jourV p (J.after (S.append J rec).2 rec.length)) 58 :: L) w' := by
  obtain ⟨nb, hnb⟩ : ∃ nb, nb = blocksN rec.length := ⟨_, rfl⟩
  have HBK := hid (fun X => (blocks_any (rec.length : Int) X).mono (fun r w' hx => (⟨by rw [hx.1, blocksI_nat hl, ← hnb], hx.2⟩ : r = .returned (.int .i64 nb) ∧ X = w')))
  have hnb1 : 1 ≤ nb := by rw [hnb]; exact blocksN_pos _
  have hnb2 : nb ≤ 561 := by rw [hnb]; exact blocksN_le hl
  have g1 := hJ.fits
  have g2 := hJ.used
  have g3 := hJ.few
  have g4 := hJ.big
  have HNB := hid hnb
  have HH := hid h
  have HOK := hid hok
  have HB0 := hid (show ∀ X, St W0 L X → Calls Tryd.prog 20 #[.int .i64 J.n, .int .i64 0, .slice A rec.length c] X fun r X' => r = .returned (.agg (bv (blockB J.n 0 rec))) ∧ Below X.heap.size X X' from fun X hX => block_any (n := J.n) (k := 0) (hrec X hX) (by omega) hl hc hc2 (by rw [← hnb]; omega))
  have HTL := hid (fun (X : World) (hX : St W0 (Disk p S :: Blk j (jourV p J) 58 :: L) X) => tail_st hX hok hJ (by omega) hrec hl hc hc2)
  have hle : ¬ (65535 : Int) < (rec.length : Int) := by omega
  have hrl : (rec.length : Int) ≤ 65535 := by omega
  have HAP := hid (show S.append J rec = if J.size - J.used < nb then (S, 7) else if (S.tailA J rec).2 ≠ 0 then S.tailA J rec else (S.tailA J rec).1.headA J rec by unfold DS.append; rw [if_neg (by omega), ← hnb])
  obtain ⟨y0, y1, y2, y3, y4⟩ := jour_cells h.at2.blk
  clear h hok hJ hrec hnb hc hc2 hl
  go_enter Tryd.func9, Tryd.ntmps9
  go_wp2_with fail
  refine wp_region_ord [] [(0, 1), (1, 1), (3, 1), (4, 1), (5, 1), (6, 1), (7, 1), (8, 1), (9, 1), (10, 1), (11, 1), (2, 2), (12, 1), (13, 1)] (fun X => St W0 (Disk p S :: Blk j (jourV p J) 58 :: L) X) (by kernel_rfl) (by kernel_rfl) (fun d _ c _ _ h => by cases d <;> exact h) (HH.out.turn (Below.drew (Below.refl _ _))) (fun X hXe hX => ?_)
  clear hXe y0 y1 y2 y3 y4
  repeat (apply wpOrd_class; ((· first | (rw [List.getElem?_toArray, List.getElem?_cons_zero]; done) | (simp only [List.getElem?_toArray, List.getElem?_cons_succ, List.getElem?_cons_zero]; exact rfl))); (· exact rfl); intro K hK; apply Exists.intro; refine And.intro (fun X' hX' => ?_) ?_; (· obtain ⟨j0, j1, j2, j3, j4⟩ := jour_cells hX'.at2.blk; clear hX'; go_simp; (try go_bits); first | done | exact rfl | exact ⟨rfl, rfl⟩); go_simp; refine hK _ _ ?_; clear hK K)
  (apply wpOrd_comes; ((· first | (rw [List.getElem?_toArray, List.getElem?_cons_zero]; done) | (simp only [List.getElem?_toArray, List.getElem?_cons_succ, List.getElem?_cons_zero]; exact rfl))); intro N hN)
  go_wp2_with (go_at_call 17; (with_reducible refine (HBK.out _).mono ?_); rintro r w1 ⟨rfl, rfl⟩)
  refine hN _ _ (fun _ => hX) ?_
  clear hN N
  by_cases hfull : J.size - J.used < nb
  · have HAP := hid (HAP.out.trans (if_pos hfull))
    have hf1 : decide ((J.size : Int) - (J.used : Int) < (nb : Int)) = true := decide_eq_true (by omega)
    repeat (apply wpOrd_class; ((· first | (rw [List.getElem?_toArray, List.getElem?_cons_zero]; done) | (simp only [List.getElem?_toArray, List.getElem?_cons_succ, List.getElem?_cons_zero]; exact rfl))); (· exact rfl); intro K hK; apply Exists.intro; refine And.intro (fun X' hX' => ?_) ?_; (· obtain ⟨j0, j1, j2, j3, j4⟩ := jour_cells hX'.at2.blk; clear hX'; go_simp; (try go_bits); first | done | exact rfl | exact ⟨rfl, rfl⟩); go_simp; refine hK _ _ ?_; clear hK K)
    refine wpOrd_done ?_
    have HX := hid hX
    clear hX hf1
    go_wp2_with fail
    go_ret
    have HJA := hid (show J.after (S.append J rec).2 rec.length = J by rw [HAP.out]; unfold Jn.after; rw [if_neg (by simp)])
    rw [HJA.out, HAP.out]
    exact ⟨rfl, HX.out⟩
  · have HAP := hid (HAP.out.trans (if_neg hfull))
    have hf1 : decide ((J.size : Int) - (J.used : Int) < (nb : Int)) = false := decide_eq_false (by omega)
    repeat (apply wpOrd_class; ((· first | (rw [List.getElem?_toArray, List.getElem?_cons_zero]; done) | (simp only [List.getElem?_toArray, List.getElem?_cons_succ, List.getElem?_cons_zero]; exact rfl))); (· exact rfl); intro K hK; apply Exists.intro; refine And.intro (fun X' hX' => ?_) ?_; (· obtain ⟨j0, j1, j2, j3, j4⟩ := jour_cells hX'.at2.blk; clear hX'; go_simp; (try go_bits); first | done | exact rfl | exact ⟨rfl, rfl⟩); go_simp; refine hK _ _ ?_; clear hK K)
    refine wpOrd_done ?_
    have HX := hid hX
    clear hX hf1
    obtain ⟨T, e, hT⟩ : ∃ T e, S.tailA J rec = (T, e) := ⟨_, _, rfl⟩
    rw [hT] at HTL HAP
    have HTO := hid (show T.Ok (M0 + 600) from by
      have := tailA_ok HOK.out J rec HNB.out hnb2
      rw [hT] at this
      exact this)
    clear hT
    by_cases he : e = 0
    · subst he
      have HA2 := hid (show S.append J rec = T.headA J rec from HAP.out.trans (if_neg (by simp)))
      obtain ⟨pk, hpk⟩ : ∃ pk : Nat, pk = J.first + J.used := ⟨_, rfl⟩
      have epk : (J.first : Int) + (J.used : Int) = (pk : Int) := by omega
      obtain ⟨Q, e2, hQ⟩ : ∃ Q e2, T.write (pk : Int) (blockB J.n 0 rec) = (Q, e2) := ⟨_, _, rfl⟩
      have HQO := hid (show Q.Ok (M0 + 600 + 1) by have := HTO.out.write (pk : Int) (blockB_len J.n 0 rec); rw [hQ] at this; exact this)
      have HHA := hid (show T.headA J rec = if e2 ≠ 0 then (Q, e2) else Q.sync by unfold DS.headA; rw [← hpk, hQ])
      have HW := hid (show ∀ X, St W0 (Disk p T :: Blk j (jourV p J) 58 :: L) X → Calls Tryd.prog 19 #[.pointer (some ⟨p, 0, none⟩), .int .i64 pk, .agg (bv (blockB J.n 0 rec))] X fun r X' => r = .returned (.int .i64 e2) ∧ St W0 (Disk p Q :: Blk j (jourV p J) 58 :: L) X' from fun X h => (write_st h HTO.out (by omega) _ (blockB_len _ _ _)).mono fun r X' hx => by rw [hQ] at hx; exact hx)
      clear hpk hQ
      go_wp2_with (go_at_call 18; (with_reducible refine (HTL.out _ HX.out).mono ?_); rintro r w2 ⟨rfl, hs2⟩; have H2 := hid hs2; clear hs2)
      refine wp_region_ord [19, 20] [(0, 1), (1, 1), (2, 1), (3, 1), (4, 1), (5, 1), (6, 1), (7, 1), (8, 1), (9, 1), (10, 1), (11, 1), (12, 1), (13, 1), (14, 1), (15, 1), (16, 1), (17, 1), (18, 2), (19, 2), (20, 0)] (fun X => St W0 (Disk p T :: Blk j (jourV p J) 58 :: L) X) (by kernel_rfl) (by kernel_rfl) (fun d _ c _ _ h => by cases d <;> exact h) (H2.out.turn (Below.drew (Below.refl _ _))) (fun X hXe hX => ?_)
      clear hXe
      repeat (apply wpOrd_class; ((· first | (rw [List.getElem?_toArray, List.getElem?_cons_zero]; done) | (simp only [List.getElem?_toArray, List.getElem?_cons_succ, List.getElem?_cons_zero]; exact rfl))); (· exact rfl); intro K hK; apply Exists.intro; refine And.intro (fun X' hX' => ?_) ?_; (· obtain ⟨j0, j1, j2, j3, j4⟩ := jour_cells hX'.at2.blk; clear hX'; go_simp; (try go_bits); first | done | exact rfl | exact ⟨rfl, rfl⟩); go_simp; refine hK _ _ ?_; clear hK K)
      (apply wpOrd_comes; ((· first | (rw [List.getElem?_toArray, List.getElem?_cons_zero]; done) | (simp only [List.getElem?_toArray, List.getElem?_cons_succ, List.getElem?_cons_zero]; exact rfl))); intro N hN)
      go_wp2_with (go_at_call 20; (with_reducible refine (HB0.out _ hX.drop.drop).mono ?_); rintro r X2 ⟨rfl, hb⟩; have hX2 := hX.turn hb; clear hb)
      refine hN _ _ (fun _ => hX2) ?_
      clear hN N
      (apply wpOrd_comes; ((· first | (rw [List.getElem?_toArray, List.getElem?_cons_zero]; done) | (simp only [List.getElem?_toArray, List.getElem?_cons_succ, List.getElem?_cons_zero]; exact rfl))); intro N hN)
      go_wp2_with (go_at_call 19; (with_reducible refine (HW.out _ hX2).mono ?_); rintro r X3 ⟨rfl, hs3⟩; have H3 := hid hs3; clear hs3)
      refine hN _ _ (fun h => by cases h) ?_
      clear hN N
      (apply wpOrd_pure; ((· first | (rw [List.getElem?_toArray, List.getElem?_cons_zero]; done) | (simp only [List.getElem?_toArray, List.getElem?_cons_succ, List.getElem?_cons_zero]; exact rfl))); (· exact rfl); intro K hK; apply Exists.intro; refine And.intro (fun X' => ?_) ?_; (· go_simp; (try go_bits); first | done | exact rfl | exact ⟨rfl, rfl⟩); go_simp; refine hK _ _ ?_; clear hK K)
      refine wpOrd_done ?_
      clear hX hX2
      obtain ⟨y0, y1, y2, y3, y4⟩ := jour_cells H3.out.at2.blk
      by_cases he2 : e2 = 0
      · have HA3 := hid (show S.append J rec = Q.sync from HA2.out.trans (HHA.out.trans (if_neg (by simpa using he2))))
        clear HA2 HHA HAP
        subst he2
        obtain ⟨Z, e3, hZ⟩ : ∃ Z e3, Q.sync = (Z, e3) := ⟨_, _, rfl⟩
        rw [hZ] at HA3
        have HSY := hid (show ∀ X, St W0 (Disk p Q :: Blk j (jourV p J) 58 :: L) X → Calls Tryd.prog 21 #[.pointer (some ⟨p, 0, none⟩)] X fun r X' => r = .returned (.int .i64 e3) ∧ St W0 (Disk p Z :: Blk j (jourV p J) 58 :: L) X' from fun X h => (sync_st h HQO.out (by omega)).mono fun r X' hx => by rw [hZ] at hx; exact hx)
        clear hZ
        by_cases he3 : e3 = 0
        · subst he3
          have HJA := hid (show J.after (S.append J rec).2 rec.length = J.more rec.length by rw [HA3.out]; unfold Jn.after; rw [if_pos rfl])
          go_wp2_with (go_at_call 21; (with_reducible refine (HSY.out _ H3.out).mono ?_); rintro r w4 ⟨rfl, hs4⟩; have H4 := hid hs4; clear hs4)
          refine wp_region_ord [10] [(0, 1), (1, 1), (2, 1), (3, 1), (4, 1), (5, 1), (6, 2), (7, 1), (8, 1), (9, 1), (10, 2)] (fun X => St W0 (Disk p Z :: Blk j (jourV p J) 58 :: L) X) (by kernel_rfl) (by kernel_rfl) (fun d _ c _ _ h => by cases d <;> exact h) (H4.out.turn (Below.drew (Below.refl _ _))) (fun X hXe hX => ?_)
          clear hXe y0 y1 y2 y3 y4
          repeat (apply wpOrd_class; ((· first | (rw [List.getElem?_toArray, List.getElem?_cons_zero]; done) | (simp only [List.getElem?_toArray, List.getElem?_cons_succ, List.getElem?_cons_zero]; exact rfl))); (· exact rfl); intro K hK; apply Exists.intro; refine And.intro (fun X' hX' => ?_) ?_; (· obtain ⟨j0, j1, j2, j3, j4⟩ := jour_cells hX'.at2.blk; clear hX'; go_simp; (try go_bits); first | done | exact rfl | exact ⟨rfl, rfl⟩); go_simp; refine hK _ _ ?_; clear hK K)
          (apply wpOrd_comes; ((· first | (rw [List.getElem?_toArray, List.getElem?_cons_zero]; done) | (simp only [List.getElem?_toArray, List.getElem?_cons_succ, List.getElem?_cons_zero]; exact rfl))); intro N hN)
          go_wp2_with (go_at_call 17; (with_reducible refine (HBK.out _).mono ?_); rintro r X5 ⟨rfl, rfl⟩)
          refine hN _ _ (fun _ => hX) ?_
          clear hN N
          repeat (apply wpOrd_class; ((· first | (rw [List.getElem?_toArray, List.getElem?_cons_zero]; done) | (simp only [List.getElem?_toArray, List.getElem?_cons_succ, List.getElem?_cons_zero]; exact rfl))); (· exact rfl); intro K hK; apply Exists.intro; refine And.intro (fun X' hX' => ?_) ?_; (· obtain ⟨j0, j1, j2, j3, j4⟩ := jour_cells hX'.at2.blk; clear hX'; go_simp; (try go_bits); first | done | exact rfl | exact ⟨rfl, rfl⟩); go_simp; refine hK _ _ ?_; clear hK K)
          obtain ⟨y0, y1, y2, y3, y4⟩ := jour_cells hX.at2.blk
          have f3 := frozen_of_row X j 3 _ _ hX.at2.blk
          (apply wpOrd_comes; ((· first | (rw [List.getElem?_toArray, List.getElem?_cons_zero]; done) | (simp only [List.getElem?_toArray, List.getElem?_cons_succ, List.getElem?_cons_zero]; exact rfl))); intro N hN)
          go_wp2_with fail
          have H5 := hid ((hX.at2.setCell 3 (.int .i64 (J.used + nb))).at2)
          clear hX y0 y1 y2 y3 y4 f3
          refine hN _ _ (fun h => by cases h) ?_
          clear hN N
          refine wpOrd_done ?_
          obtain ⟨Y, hY⟩ : ∃ Y, Y = X.setCell ⟨j, 3, none⟩ (.int .i64 (J.used + nb)) := ⟨_, rfl⟩
          rw [← hY] at H5
          have z4 : Y.cell? ⟨j, 4, none⟩ = some (.int .i64 J.n) := (cell_of_row Y j 4 _ _ _ H5.out.at2.blk).trans rfl
          have f4 := frozen_of_row Y j 4 _ _ H5.out.at2.blk
          simp only [← hY]
          clear hY
          go_wp2_with fail
          go_ret
          rw [HJA.out, HA3.out]
          refine ⟨rfl, ?_⟩
          have H6 := (H5.out.at2.setCell 4 (.int .i64 (J.n + 1))).at2
          rw [show jourV p (J.more rec.length) = ((jourV p J).setIfInBounds 3 (.int .i64 (J.used + nb))).setIfInBounds 4 (.int .i64 (J.n + 1)) from by rw [HNB.out]; rfl]
          exact H6
        · have hne : (e3 != 0) = true := by simpa using he3
          have HJA := hid (show J.after (S.append J rec).2 rec.length = J by rw [HA3.out]; unfold Jn.after; rw [if_neg he3])
          clear he3
          go_wp2_with (go_at_call 21; (with_reducible refine (HSY.out _ H3.out).mono ?_); rintro r w4 ⟨rfl, hs4⟩; have H4 := hid hs4; clear hs4)
          go_ret
          rw [HJA.out, HA3.out]
          exact ⟨rfl, H4.out⟩
      · have HA3 := hid (show S.append J rec = (Q, e2) from HA2.out.trans (HHA.out.trans (if_pos (by simpa using he2))))
        clear HA2 HHA HAP
        have hne : (e2 != 0) = true := by simpa using he2
        have HJA := hid (show J.after (S.append J rec).2 rec.length = J by rw [HA3.out]; unfold Jn.after; rw [if_neg he2])
        clear he2
        go_wp2_with fail
        go_ret
        rw [HJA.out, HA3.out]
        exact ⟨rfl, H3.out⟩
    · have HA2 := hid (show S.append J rec = (T, e) from HAP.out.trans (if_pos he))
      have hne : (e != 0) = true := by simpa using he
      have HJA := hid (show J.after (S.append J rec).2 rec.length = J by rw [HA2.out]; unfold Jn.after; rw [if_neg he])
      clear he HAP
      go_wp2_with (go_at_call 18; (with_reducible refine (HTL.out _ HX.out).mono ?_); rintro r w2 ⟨rfl, hs2⟩; have H2 := hid hs2; clear hs2)
      go_ret
      rw [HJA.out, HA2.out]
      exact ⟨rfl, H2.out⟩
end
end Go.Proofs.YthmchbdhikakhaaDoor
/- An order of one's own with one fork: two that turn the world may come in either order. -/
namespace Go.Cu
open Go Go.RowKit
section
variable {P : Program} {ops : Array Oper} {Q : Exit → Act → World → Prop} {md : Region.Mode} {S : World → Prop} {loose : List Nat}
theorem Qn_Qn (F N : Act → World → Prop) : Qn (Qn Q F) N = Qn Q N := by
  funext x a w
  cases x <;> rfl
def ordrF (md : Region.Mode) (ops : Array Oper) (loose : List Nat) (E : Bool → Array Bool → Bool) : List (Nat × Nat) → Bool → Array Bool → Bool
  | [], s, listed => E s listed
  | (i, 0) :: r, s, listed => loose.contains i && (Region.ready md ops listed).contains i && Region.free md ops listed i && ordrF md ops loose E r s (listed.setIfInBounds i true)
  | (i, 1) :: r, s, listed => s && (Region.ready md ops listed).contains i && Region.free md ops listed i && waitB md ops i (waitOf md ops i) &&
      ((List.range ops.size).all fun j => listed.getD j true || j == i || !loose.contains j || (waitOf md ops i).contains j) && ordrF md ops loose E r s (listed.setIfInBounds i true)
  | (i, _ + 2) :: r, _, listed => decide (Region.ready md ops listed = [i]) && ordrF md ops loose E r (!loose.contains i) (listed.setIfInBounds i true)

theorem wpAnyN_of_ordF (hsel : Region.noSelect ops = true) (hQ : ∀ (d : Option Tmp) (v : Value) c a w, Q (.panic c) (a.put d v) w → Q (.panic c) a w)
    {F : Act → World → Prop} {E : Bool → Array Bool → Bool} {n : Nat} (hE : ∀ s listed a w, OInv md ops listed → E s listed = true → (s = true → S w) → F a w → wpAnyN P md ops Q S loose n listed a w) :
    ∀ (l : List (Nat × Nat)) (s : Bool) (listed : Array Bool) (a : Act) (w : World), OInv md ops listed → ordrF md ops loose E l s listed = true → (s = true → S w) → wpOrd P ops (Qn Q F) S loose l a w → wpAnyN P md ops Q S loose (n + l.length) listed a w
  | [], s, listed, a, w, inv, hB, hS, h => hE s listed a w inv (by simpa [ordrF] using hB) hS h
  | (i, 0) :: r, s, listed, a, w, inv, hB, hS, h => by
    simp only [ordrF, Bool.and_eq_true] at hB
    obtain ⟨⟨⟨hl, hr⟩, hf⟩, hB'⟩ := hB
    obtain ⟨o, ho, v, hy, hK⟩ := h
    have hr' : i ∈ Region.ready md ops listed := by simpa using hr
    exact wpAnyN_pure ho (Region.noSelect_spec hsel) (fun c a w => hQ _ _ c a w) hl _ listed a w (Region.free_spec ho hf) hr' hy (wpAnyN_of_ordF hsel hQ hE r s _ _ w (inv.set hr') hB' hS hK)
  | (i, 1) :: r, s, listed, a, w, inv, hB, hS, h => by
    simp only [ordrF, Bool.and_eq_true] at hB
    obtain ⟨⟨⟨⟨⟨hs, hr⟩, hf⟩, hD⟩, hn⟩, hB'⟩ := hB
    obtain ⟨o, ho, v, hy, hK⟩ := h
    have hr' : i ∈ Region.ready md ops listed := by simpa using hr
    refine wpAnyN_first ho (Region.noSelect_spec hsel) hD (fun c a w => hQ _ _ c a w) _ listed a w inv (fun j hj hun hji hlo => ?_) (Region.free_spec ho hf) hr' hy (hS hs) (wpAnyN_of_ordF hsel hQ hE r s _ _ w (inv.set hr') hB' hS hK)
    have h1 := List.all_eq_true.1 hn j (List.mem_range.2 hj)
    simp only [Bool.or_eq_true, beq_iff_eq, hun, hji, hlo, Bool.not_true, Bool.false_eq_true, false_or] at h1
    simpa using h1
  | (i, k + 2) :: r, s, listed, a, w, inv, hB, hS, h => by
    simp only [ordrF, Bool.and_eq_true, decide_eq_true_eq] at hB
    obtain ⟨hr, hB'⟩ := hB
    obtain ⟨o, ho, h⟩ := h
    rw [Qn_Qn] at h
    refine ⟨fun h1 => (by rw [hr] at h1; cases h1), fun j hj => ?_⟩
    have hji : j = i := by rw [hr] at hj; simpa using hj
    subst hji
    refine wpOp_mono (fun a' w' h' => ⟨h'.1, wpAnyN_of_ordF hsel hQ hE r _ _ a' w' (inv.set hj) hB' (fun hs => h'.1 (by simpa using hs)) h'.2⟩) (wpOp_of_one ho h)

/-- Behind the order l one of i and j comes, and then its own order. -/
def forkB (ops : Array Oper) (loose : List Nat) (i j : Nat) (li lj : List (Nat × Nat)) (_ : Bool) (listed : Array Bool) : Bool :=
  decide (Region.ready .any ops listed = [i, j]) && ordrF .any ops loose (fun _ l => (Region.ready .any ops l).isEmpty) li (!loose.contains i) (listed.setIfInBounds i true) &&
    ordrF .any ops loose (fun _ l => (Region.ready .any ops l).isEmpty) lj (!loose.contains j) (listed.setIfInBounds j true)
def Forked (P : Program) (ops : Array Oper) (Q : Exit → Act → World → Prop) (S : World → Prop) (loose : List Nat) (i j : Nat) (li lj : List (Nat × Nat)) (a : Act) (w : World) : Prop :=
  wpOrd P ops Q S loose ((i, 2) :: li) a w ∧ wpOrd P ops Q S loose ((j, 2) :: lj) a w
theorem wp_region_fork {id : Nat} {a : Act} {w : World} {l : List Oper} {A : Nat → Act} (loose : List Nat) (order : List (Nat × Nat)) (i j : Nat) (li lj : List (Nat × Nat)) (S : World → Prop) (R : Nat → World → Prop) (hm : P.follows .mixedOrders = true)
    (hB : (Region.noSelect l.toArray && decide (order.length + li.length + 1 = l.toArray.size) && decide (li.length = lj.length) && ordrF .any l.toArray loose (forkB l.toArray loose i j li lj) order true (Array.replicate l.toArray.size false)) = true)
    (hQ : ∀ (d : Option Tmp) (v : Value) c a w, Q (.panic c) (a.put d v) w → Q (.panic c) a w) (hS : S w.drew)
    (h : ∀ X, S X → wpOrd P l.toArray (Qn Q (Forked P l.toArray (Qn Q fun a w => ∃ g, R g w ∧ a = A g) S loose i j li lj)) S loose order a X)
    (hC : ∀ g w, R g w → Q .normal (A g) w) : (Code.region id l.toArray true).wp P Q a w := by
  simp only [Bool.and_eq_true, decide_eq_true_eq] at hB
  obtain ⟨⟨⟨hsel, hlen⟩, hl2⟩, hb⟩ := hB
  refine wp_region_any hm ?_
  have hend : ∀ (s : Bool) (listed : Array Bool) (a : Act) (w : World), OInv .any l.toArray listed → (Region.ready .any l.toArray listed).isEmpty = true → (s = true → S w) → (∃ g, R g w ∧ a = A g) → wpAnyN P .any l.toArray Q S loose 0 listed a w := by
    rintro s listed a w _ hE _ ⟨g, hg, rfl⟩
    exact ⟨by simpa using hE, hC g w hg⟩
  have hfork : ∀ (s : Bool) (listed : Array Bool) (a : Act) (w : World), OInv .any l.toArray listed → forkB l.toArray loose i j li lj s listed = true → (s = true → S w) → Forked P l.toArray (Qn Q fun a w => ∃ g, R g w ∧ a = A g) S loose i j li lj a w → wpAnyN P .any l.toArray Q S loose (0 + li.length + 1) listed a w := by
    rintro s listed a w inv hE _ ⟨⟨oi, hoi, h1⟩, ⟨oj, hoj, h2⟩⟩
    simp only [forkB, Bool.and_eq_true, decide_eq_true_eq] at hE
    obtain ⟨⟨hr, hi⟩, hj⟩ := hE
    rw [Qn_Qn] at h1 h2
    refine ⟨fun h1 => (by rw [hr] at h1; cases h1), fun k hk => ?_⟩
    have hkk : k = i ∨ k = j := by rw [hr] at hk; simpa using hk
    rcases hkk with rfl | rfl
    · exact wpOp_mono (fun a' w' h' => ⟨h'.1, wpAnyN_of_ordF hsel hQ hend li _ _ a' w' (inv.set hk) hi (fun hs => h'.1 (by simpa using hs)) h'.2⟩) (wpOp_of_one hoi h1)
    · rw [hl2]
      exact wpOp_mono (fun a' w' h' => ⟨h'.1, wpAnyN_of_ordF hsel hQ hend lj _ _ a' w' (inv.set hk) hj (fun hs => h'.1 (by simpa using hs)) h'.2⟩) (wpOp_of_one hoj h2)
  have := wpAnyN_of_ordF (md := .any) (S := S) hsel hQ hfork order true _ a w.drew OInv.start hb (fun _ => hS) (h _ hS)
  rw [show 0 + li.length + 1 + order.length = l.toArray.size by omega] at this
  exact wpAny_of_N _ _ _ _ this
theorem wpFork_done {a : Act} {w : World} {F : Act → World → Prop} (h : F a w) : wpOrd P ops (Qn Q F) S loose [] a w := h
end
end Go.Cu
/- bytes.Equal on bytes that lie somewhere. -/
namespace Go.Proofs.YthmchbdhikakhaaDoor
open Go.RowKit Go.Cu
def numsB (l : List UInt8) : List Int := l.map fun b => (b.toNat : Int)
theorem numsB_bytes (l : List UInt8) : Lib.bytesOf (numsB l) = l := by
  unfold Lib.bytesOf numsB
  rw [List.map_map]
  conv => rhs; rw [← List.map_id l]
  refine List.map_congr_left fun b _ => ?_
  simp
theorem numsB_getD {l : List UInt8} {i : Nat} (h : i < l.length) : (numsB l).getD i 0 = ((l.getD i 0).toNat : Int) := by
  simp [numsB, List.getD, List.getElem?_eq_getElem h]
theorem equal_any {l m : List UInt8} {ga oa gb ob c d : Nat} (w : World)
    (hl : ∀ i, i < l.length → w.cell? ⟨ga, oa + i, none⟩ = some (.int .u8 (l.getD i 0).toNat)) (hm : ∀ i, i < m.length → w.cell? ⟨gb, ob + i, none⟩ = some (.int .u8 (m.getD i 0).toNat)) :
    Calls Tryd.prog 29 #[.slice (some ⟨ga, oa, none⟩) l.length c, .slice (some ⟨gb, ob, none⟩) m.length d] w fun r w' => r = .returned (.bool (l == m)) ∧ w = w' := by
  have h1 := run_convert_bytes_arg (P := Tryd.prog) w 40 5 Tryd.underlying40 Tryd.underlying5 ga oa l.length c (numsB l) (by simp [numsB]) (fun i hi => by rw [hl i hi, numsB_getD hi]) 9 Tryd.underlying9
  have h2 := run_convert_bytes_arg (P := Tryd.prog) w 40 5 Tryd.underlying40 Tryd.underlying5 gb ob m.length d (numsB m) (by simp [numsB]) (fun i hi => by rw [hm i hi, numsB_getD hi]) 9 Tryd.underlying9
  rw [show (l == m) = ((strOfNums (numsB l)).toList == (strOfNums (numsB m)).toList) by rw [Lib.strOfNums_toList, Lib.strOfNums_toList, numsB_bytes, numsB_bytes]]
  go_enter Tryd.func29, Tryd.ntmps29
  go_wp2
  go_ret
  exact ⟨rfl, rfl⟩
end Go.Proofs.YthmchbdhikakhaaDoor
namespace Go.Proofs.YthmchbdhikakhaaDoor
open Go.RowKit Go.Cu
theorem bits_or_i64_nat (a b : Nat) (ha : a < 65536) (hb : b < 65536) : bits .or .i64 (a : Int) (b : Int) = ((a ||| b : Nat) : Int) := by
  have hx : a ||| b < 2 ^ 16 := Nat.or_lt_two_pow (by omega) (by omega)
  have h1 : (BitVec.ofInt 64 (a : Int)).toNat = a := by
    rw [BitVec.ofInt_natCast, BitVec.toNat_ofNat]; exact Nat.mod_eq_of_lt (by omega)
  have h2 : (BitVec.ofInt 64 (b : Int)).toNat = b := by
    rw [BitVec.ofInt_natCast, BitVec.toNat_ofNat]; exact Nat.mod_eq_of_lt (by omega)
  show IntKind.i64.wrap ((BitVec.ofInt 64 (a : Int) ||| BitVec.ofInt 64 (b : Int)).toNat : Int) = _
  rw [BitVec.toNat_or, h1, h2, IntKind.wrap_i64]
  omega
theorem or_bytes {h l : Nat} (hh : h < 256) (hl : l < 256) : bits .or .i64 ((h : Int) * 256) (l : Int) = ((h * 256 + l : Nat) : Int) := by
  have e := bits_or_i64_nat (h * 256) l (by omega) (by omega)
  rw [show ((h * 256 : Nat) : Int) = (h : Int) * 256 from by omega] at e
  rw [e]
  rw [show h * 256 = 2 ^ 8 * h by omega, ← Nat.two_pow_add_eq_or_of_lt (i := 8) (show l < 2 ^ 8 by omega) h]
theorem size_bytes (b : Blk8) : bits .or .i64 (bt b 9 * 256) (bt b 10) = (sizeOfB b : Nat) := by
  have := (b.getD 9 0).toNat_lt
  have := (b.getD 10 0).toNat_lt
  unfold bt sizeOfB
  exact or_bytes (by omega) (by omega)
theorem size_le (b : Blk8) : sizeOfB b ≤ 65535 := by
  have := (b.getD 9 0).toNat_lt
  have := (b.getD 10 0).toNat_lt
  unfold sizeOfB
  omega
end Go.Proofs.YthmchbdhikakhaaDoor
/- next: the record that stands next. -/
namespace Go.Proofs.YthmchbdhikakhaaDoor
open Go.RowKit Go.Cu

/-- What next answers. -/
def NextPost (W0 : World) (L : List Atm) : Option (List UInt8) → Ending → World → Prop
  | none, r, w' => r = .returned (.tuple #[.slice none 0 0, .bool false, .int .i64 0]) ∧ St W0 L w'
  | some rec, r, w' => ∃ A, r = .returned (.tuple #[.slice A rec.length rec.length, .bool true, .int .i64 0]) ∧ rec.length ≤ 65535 ∧ St W0 (Vals [.slice A rec.length rec.length] [rec] :: L) w'

theorem info5 : (Tryd.prog.info? 5).map (fun i => (i.zero, i.size, i.bytes)) = some (some (.int .u8 0), 1, 1) := by kernel_rfl
theorem blk_tail {W0 X : World} {L : List Atm} {gb : Nat} {b : Bk} (h : St W0 (Blk gb (bv b) 64 :: L) X) : ∀ j u, (bvL (b.drop 11))[j]? = some u → X.cell? ((⟨gb, 11, none⟩ : Addr).add j) = some u := by
  intro j u hu
  have e : (⟨gb, 11, none⟩ : Addr).add j = ⟨gb, 11 + j, none⟩ := by unfold Addr.add; split <;> simp_all
  rw [e, blk_cell h, bv_eq, List.getElem?_toArray]
  unfold bvL at hu ⊢
  rw [List.getElem?_map, List.getElem?_drop] at hu
  rw [List.getElem?_map]
  exact hu
def joinB (now : List Blk8) (q m : Nat) : List UInt8 := (List.range m).flatMap fun k => (now.getD (q + k) zeroB).drop 11
theorem joinB_succ (now : List Blk8) (q m : Nat) : joinB now q (m + 1) = joinB now q m ++ (now.getD (q + m) zeroB).drop 11 := by
  unfold joinB
  rw [List.range_succ, List.flatMap_append, List.flatMap_singleton]
theorem joinB_len {now : List Blk8} (h : ∀ b ∈ now, b.length = 128) (q : Nat) : ∀ m, (joinB now q m).length = 117 * m
  | 0 => rfl
  | m + 1 => by
    rw [joinB_succ, List.length_append, joinB_len h q m, List.length_drop, full_getD h]
    omega
theorem joinB_one (now : List Blk8) (q : Nat) : joinB now q 1 = (now.getD q zeroB).drop 11 := by
  rw [joinB_succ]
  rfl
theorem bt_take {b : Bk} {i : Nat} (h : i < 11) : (b.take 11).getD i 0 = b.getD i 0 := by
  rw [List.getD_eq_getElem?_getD, List.getElem?_take_of_lt h, List.getD_eq_getElem?_getD]
theorem equal_heads {W0 X : World} {L : List Atm} {gw gb n s : Nat} {b0 : Bk} (hb : b0.length = 128) (h : St W0 (Blk gw (bv (headZ n s)) 64 :: Blk gb (bv b0) 64 :: L) X) :
    Calls Tryd.prog 29 #[.slice (some ⟨gb, 0, none⟩) 11 128, .slice (some ⟨gw, 0, none⟩) 11 128] X fun r w' => r = .returned (.bool (b0.take 11 == headL n s)) ∧ X = w' := by
  have h1 := equal_any (l := b0.take 11) (m := headL n s) (ga := gb) (oa := 0) (gb := gw) (ob := 0) (c := 128) (d := 128) X (fun i hi => by
    have hi' : i < 11 := by rw [List.length_take] at hi; omega
    rw [Nat.zero_add, bt_take hi']
    exact (blk_cell h.at2 i).trans (bv_get b0 i (by omega))) (fun i hi => by
    rw [headL_len] at hi
    rw [Nat.zero_add]
    refine ((blk_cell h i).trans (bv_get (headZ n s) i (by rw [headZ_len]; omega))).trans ?_
    unfold bt headZ
    rw [List.getD_eq_getElem?_getD, List.getElem?_append_left (by rw [headL_len]; exact hi), List.getD_eq_getElem?_getD])
  rw [headL_len, List.length_take, hb] at h1
  exact h1
section
variable {W0 W : World} {L : List Atm} {p j : Nat} {S : DS} {N : Nat} {J : Jn}
set_option maxRecDepth 20000 in
set_option maxHeartbeats 8000000 in
theorem next_st (h : St W0 (Disk p S :: Blk j (jourV p J) 58 :: L) W) (hok : S.Ok N) (hoff : S.off = false) (hJ : J.Ok S.now.length) :
    Calls Tryd.prog 16 #[.pointer (some ⟨j, 0, none⟩)] W (NextPost W0 (Disk p S :: Blk j (jourV p J) 58 :: L) (nextR S.now J)) := by
  have g1 := hJ.fits
  have g2 := hJ.used
  have g3 := hJ.few
  have g4 := hJ.big
  obtain ⟨y0, y1, y2, y3, y4⟩ := jour_cells h.at2.blk
  have HH := hid h
  have HOK := hid hok
  by_cases hfull : J.used = J.size
  · have HNX := hid (show nextR S.now J = none by unfold nextR; rw [if_pos hfull])
    rw [HNX.out]
    clear h hok hJ HNX
    go_enter Tryd.func16, Tryd.ntmps16
    go_wp2_with fail
    refine wp_region_ord [] [(0, 1), (1, 1), (2, 1), (3, 1), (4, 1), (5, 1), (6, 1), (7, 1), (8, 1)] (fun X => St W0 (Disk p S :: Blk j (jourV p J) 58 :: L) X) (by kernel_rfl) (by kernel_rfl) (fun d _ c _ _ h => by cases d <;> exact h) (HH.out.turn (Below.drew (Below.refl _ _))) (fun X hXe hX => ?_)
    clear hXe y0 y1 y2 y3 y4
    have hf1 : decide ((J.used : Int) = (J.size : Int)) = true := decide_eq_true (by omega)
    repeat (apply wpOrd_class; ((· first | (rw [List.getElem?_toArray, List.getElem?_cons_zero]; done) | (simp only [List.getElem?_toArray, List.getElem?_cons_succ, List.getElem?_cons_zero]; exact rfl))); (· exact rfl); intro K hK; apply Exists.intro; refine And.intro (fun X' hX' => ?_) ?_; (· obtain ⟨j0, j1, j2, j3, j4⟩ := jour_cells hX'.at2.blk; clear hX'; go_simp; (try go_bits); first | done | exact rfl | exact ⟨rfl, rfl⟩); go_simp; refine hK _ _ ?_; clear hK K)
    refine wpOrd_done ?_
    have HX := hid hX
    clear hX
    go_wp2_with fail
    go_ret3
    exact ⟨rfl, HX.out⟩
  · obtain ⟨b0, hb0⟩ : ∃ b0, b0 = S.now.getD (J.first + J.used) zeroB := ⟨_, rfl⟩
    obtain ⟨pk, hpk⟩ : ∃ pk : Nat, pk = J.first + J.used := ⟨_, rfl⟩
    have epk : (J.first : Int) + (J.used : Int) = (pk : Int) := by omega
    have HPK := hid hpk
    have hb128 : b0.length = 128 := by rw [hb0]; exact full_getD hok.now _
    have HRD := hid (show ∀ (X : World) (L' : List Atm), St W0 (Disk p S :: L') X → Calls Tryd.prog 22 #[.pointer (some ⟨p, 0, none⟩), .int .i64 pk] X fun x X' => x = .returned (.tuple #[.agg (bv b0), .int .i64 0]) ∧ St W0 (Disk p S :: L') X' from fun X L' hX => by
      have hat : S.at_ (pk : Int) = 0 := by rw [at_in (by omega), hoff]; rfl
      refine (read_rd hX hok _).mono fun r X' hx => ⟨by rw [hx.1, hat, hb0, ← hpk]; unfold DS.rd; rw [if_pos hat, Int.toNat_natCast], hx.2⟩)
    have hf1 : decide ((J.used : Int) = (J.size : Int)) = false := decide_eq_false (by omega)
    have HBS := hid ((bv_size b0).trans hb128)
    have HB0 := hid (show b0 = S.now.getD pk zeroB by rw [hpk]; exact hb0)
    clear h hok hJ hb0 hpk
    go_enter Tryd.func16, Tryd.ntmps16
    go_wp2_with fail
    refine wp_region_ord [] [(0, 1), (1, 1), (2, 1), (3, 1), (4, 1), (5, 1), (6, 1), (7, 1), (8, 1)] (fun X => St W0 (Disk p S :: Blk j (jourV p J) 58 :: L) X) (by kernel_rfl) (by kernel_rfl) (fun d _ c _ _ h => by cases d <;> exact h) (HH.out.turn (Below.drew (Below.refl _ _))) (fun X hXe hX => ?_)
    clear hXe y0 y1 y2 y3 y4
    repeat (apply wpOrd_class; ((· first | (rw [List.getElem?_toArray, List.getElem?_cons_zero]; done) | (simp only [List.getElem?_toArray, List.getElem?_cons_succ, List.getElem?_cons_zero]; exact rfl))); (· exact rfl); intro K hK; apply Exists.intro; refine And.intro (fun X' hX' => ?_) ?_; (· obtain ⟨j0, j1, j2, j3, j4⟩ := jour_cells hX'.at2.blk; clear hX'; go_simp; (try go_bits); first | done | exact rfl | exact ⟨rfl, rfl⟩); go_simp; refine hK _ _ ?_; clear hK K)
    refine wpOrd_done ?_
    have HX := hid hX
    clear hX hf1
    go_wp2_with fail
    clear HH
    apply wp_region_fork [15, 16, 18, 19] [(0, 1), (1, 1), (2, 1), (3, 1), (4, 1), (5, 1), (6, 1), (7, 1), (8, 1), (9, 1), (10, 1), (11, 1), (12, 1)] 13 17 [(14, 1), (15, 0), (16, 0), (17, 2), (18, 2), (19, 0)] [(13, 2), (14, 1), (15, 0), (16, 0), (18, 2), (19, 0)] (fun X => St W0 (Disk p S :: Blk j (jourV p J) 58 :: L) X) (fun g X => St W0 (Blk g (bv b0) 64 :: Disk p S :: Blk j (jourV p J) 58 :: L) X) (by kernel_rfl) (by kernel_rfl) (fun d _ c _ _ h => by cases d <;> exact h) (HX.out.turn (Below.drew (Below.refl _ _)))
    case h =>
      intro X hX
      repeat (apply wpOrd_class; ((· first | (rw [List.getElem?_toArray, List.getElem?_cons_zero]; done) | (simp only [List.getElem?_toArray, List.getElem?_cons_succ, List.getElem?_cons_zero]; exact rfl))); (· exact rfl); intro K hK; apply Exists.intro; refine And.intro (fun X' hX' => ?_) ?_; (· obtain ⟨j0, j1, j2, j3, j4⟩ := jour_cells hX'.at2.blk; clear hX'; go_simp; (try go_bits); first | done | exact rfl | exact ⟨rfl, rfl⟩); go_simp; refine hK _ _ ?_; clear hK K)
      refine wpFork_done ⟨?_, ?_⟩
      · (apply wpOrd_comes; ((· first | (rw [List.getElem?_toArray, List.getElem?_cons_zero]; done) | (simp only [List.getElem?_toArray, List.getElem?_cons_succ, List.getElem?_cons_zero]; exact rfl))); intro N hN)
        go_wp2_with (go_at_call 22; (with_reducible refine (HRD.out _ _ hX).mono ?_); rintro r X2 ⟨rfl, hX2⟩)
        refine hN _ _ (fun _ => hX2) ?_
        repeat (apply wpOrd_class; ((· first | (rw [List.getElem?_toArray, List.getElem?_cons_zero]; done) | (simp only [List.getElem?_toArray, List.getElem?_cons_succ, List.getElem?_cons_zero]; exact rfl))); (· exact rfl); intro K hK; apply Exists.intro; refine And.intro (fun X' hX' => ?_) ?_; (· obtain ⟨j0, j1, j2, j3, j4⟩ := jour_cells hX'.at2.blk; clear hX'; go_simp; (try go_bits); first | done | exact rfl | exact ⟨rfl, rfl⟩); go_simp; refine hK _ _ ?_; clear hK K)
        (apply wpOrd_pure; ((· first | (rw [List.getElem?_toArray, List.getElem?_cons_zero]; done) | (simp only [List.getElem?_toArray, List.getElem?_cons_succ, List.getElem?_cons_zero]; exact rfl))); (· exact rfl); intro K hK; apply Exists.intro; refine And.intro (fun X' => ?_) ?_; (· go_simp; (try go_bits); first | done | exact rfl | exact ⟨rfl, rfl⟩); go_simp; refine hK _ _ ?_; clear hK K)
        (apply wpOrd_pure; ((· first | (rw [List.getElem?_toArray, List.getElem?_cons_zero]; done) | (simp only [List.getElem?_toArray, List.getElem?_cons_succ, List.getElem?_cons_zero]; exact rfl))); (· exact rfl); intro K hK; apply Exists.intro; refine And.intro (fun X' => ?_) ?_; (· go_simp; (try go_bits); first | done | exact rfl | exact ⟨rfl, rfl⟩); go_simp; refine hK _ _ ?_; clear hK K)
        (apply wpOrd_comes; ((· first | (rw [List.getElem?_toArray, List.getElem?_cons_zero]; done) | (simp only [List.getElem?_toArray, List.getElem?_cons_succ, List.getElem?_cons_zero]; exact rfl))); intro N hN)
        go_wp2_with (refine wpList_alloc 64 rfl rfl (.agg (bv zeroB)) zero33 ?_; intro gb X3 hB hbl hbg hX3)
        have H3 := hid (hX2.newBlk hX3 hbg hB)
        refine hN _ _ (fun _ => H3.out.drop) ?_
        (apply wpOrd_comes; ((· first | (rw [List.getElem?_toArray, List.getElem?_cons_zero]; done) | (simp only [List.getElem?_toArray, List.getElem?_cons_succ, List.getElem?_cons_zero]; exact rfl))); intro N hN)
        go_wp2_with (refine wpList_store_box 64 _ _ rfl gb rfl rfl (bv b0) rfl 128 size33 HBS.out (bv_one _) 64 _ hB bvz ?_; intro X4 hB4 hT4 hs4)
        refine hN _ _ (fun h => by cases h) ?_
        (apply wpOrd_pure; ((· first | (rw [List.getElem?_toArray, List.getElem?_cons_zero]; done) | (simp only [List.getElem?_toArray, List.getElem?_cons_succ, List.getElem?_cons_zero]; exact rfl))); (· exact rfl); intro K hK; apply Exists.intro; refine And.intro (fun X' => ?_) ?_; (· go_simp; (try go_bits); first | done | exact rfl | exact ⟨rfl, rfl⟩); go_simp; refine hK _ _ ?_; clear hK K)
        exact wpFork_done ⟨gb, (H3.out).put hB4 hT4, rfl⟩
      · (apply wpOrd_comes; ((· first | (rw [List.getElem?_toArray, List.getElem?_cons_zero]; done) | (simp only [List.getElem?_toArray, List.getElem?_cons_succ, List.getElem?_cons_zero]; exact rfl))); intro N hN)
        go_wp2_with (refine wpList_alloc 64 rfl rfl (.agg (bv zeroB)) zero33 ?_; intro gb X3 hB hbl hbg hX3)
        have H3 := hid (hX.newBlk hX3 hbg hB)
        refine hN _ _ (fun _ => H3.out.drop) ?_
        (apply wpOrd_comes; ((· first | (rw [List.getElem?_toArray, List.getElem?_cons_zero]; done) | (simp only [List.getElem?_toArray, List.getElem?_cons_succ, List.getElem?_cons_zero]; exact rfl))); intro N hN)
        go_wp2_with (go_at_call 22; (with_reducible refine (HRD.out _ _ H3.out.at2).mono ?_); rintro r X2 ⟨rfl, hX2⟩)
        have H2 := hid hX2.at2
        clear hX2
        refine hN _ _ (fun _ => H2.out.drop) ?_
        have hX5 := H2.out.drop
        repeat (apply wpOrd_class; ((· first | (rw [List.getElem?_toArray, List.getElem?_cons_zero]; done) | (simp only [List.getElem?_toArray, List.getElem?_cons_succ, List.getElem?_cons_zero]; exact rfl))); (· exact rfl); intro K hK; apply Exists.intro; refine And.intro (fun X' hX' => ?_) ?_; (· obtain ⟨j0, j1, j2, j3, j4⟩ := jour_cells hX'.at2.blk; clear hX'; go_simp; (try go_bits); first | done | exact rfl | exact ⟨rfl, rfl⟩); go_simp; refine hK _ _ ?_; clear hK K)
        (apply wpOrd_pure; ((· first | (rw [List.getElem?_toArray, List.getElem?_cons_zero]; done) | (simp only [List.getElem?_toArray, List.getElem?_cons_succ, List.getElem?_cons_zero]; exact rfl))); (· exact rfl); intro K hK; apply Exists.intro; refine And.intro (fun X' => ?_) ?_; (· go_simp; (try go_bits); first | done | exact rfl | exact ⟨rfl, rfl⟩); go_simp; refine hK _ _ ?_; clear hK K)
        (apply wpOrd_pure; ((· first | (rw [List.getElem?_toArray, List.getElem?_cons_zero]; done) | (simp only [List.getElem?_toArray, List.getElem?_cons_succ, List.getElem?_cons_zero]; exact rfl))); (· exact rfl); intro K hK; apply Exists.intro; refine And.intro (fun X' => ?_) ?_; (· go_simp; (try go_bits); first | done | exact rfl | exact ⟨rfl, rfl⟩); go_simp; refine hK _ _ ?_; clear hK K)
        (apply wpOrd_comes; ((· first | (rw [List.getElem?_toArray, List.getElem?_cons_zero]; done) | (simp only [List.getElem?_toArray, List.getElem?_cons_succ, List.getElem?_cons_zero]; exact rfl))); intro N hN)
        go_wp2_with (refine wpList_store_box 64 _ _ rfl gb rfl rfl (bv b0) rfl 128 size33 HBS.out (bv_one _) 64 _ H2.out.blk bvz ?_; intro X4 hB4 hT4 hs4)
        refine hN _ _ (fun h => by cases h) ?_
        (apply wpOrd_pure; ((· first | (rw [List.getElem?_toArray, List.getElem?_cons_zero]; done) | (simp only [List.getElem?_toArray, List.getElem?_cons_succ, List.getElem?_cons_zero]; exact rfl))); (· exact rfl); intro K hK; apply Exists.intro; refine And.intro (fun X' => ?_) ?_; (· go_simp; (try go_bits); first | done | exact rfl | exact ⟨rfl, rfl⟩); go_simp; refine hK _ _ ?_; clear hK K)
        exact wpFork_done ⟨gb, (H2.out).put hB4 hT4, rfl⟩
    case hC =>
      intro gb X5 hX5
      have H5 := hid hX5
      clear hX5 HX
      obtain ⟨sz, hsz⟩ : ∃ sz, sz = sizeOfB b0 := ⟨_, rfl⟩
      have hsz2 : sz ≤ 65535 := by rw [hsz]; exact size_le b0
      have c9 : X5.cell? ⟨gb, 9, none⟩ = some (.int .u8 (bt b0 9)) := (blk_cell H5.out 9).trans (bv_get _ _ (by omega))
      have c10 : X5.cell? ⟨gb, 10, none⟩ = some (.int .u8 (bt b0 10)) := (blk_cell H5.out 10).trans (bv_get _ _ (by omega))
      have hw9 : wrap64 (bt b0 9) = bt b0 9 := IntWalk.wrap64_in _ (by have := bt_ge b0 9; have := bt_lt b0 9; omega)
      have hw10 : wrap64 (bt b0 10) = bt b0 10 := IntWalk.wrap64_in _ (by have := bt_ge b0 10; have := bt_lt b0 10; omega)
      have hw11 : wrap64 (bt b0 9 * 256) = bt b0 9 * 256 := IntWalk.wrap64_in _ (by have := bt_ge b0 9; have := bt_lt b0 9; omega)
      have hso : bits .or .i64 (bt b0 9 * 256) (bt b0 10) = (sz : Int) := by rw [hsz]; exact size_bytes b0
      obtain ⟨z0, z1, z2, z3, z4⟩ := jour_cells H5.out.at3.blk
      have HBG := hid (show ∀ X, Calls Tryd.prog 28 #[.int .i64 J.n, .int .i64 sz] X fun r w' => r = .returned (.agg (bv (headZ J.n sz))) ∧ Below X.heap.size X w' from fun X => begin_ok (n := J.n) (s := sz) (by omega) hsz2 X)
      have HHZ := hid ((bv_size (headZ J.n sz)).trans (headZ_len J.n sz))
      have HBK := hid (fun X => (blocks_any (sz : Int) X).mono (fun r w' hx => (⟨by rw [hx.1, blocksI_nat hsz2], hx.2⟩ : r = .returned (.int .i64 (blocksN sz)) ∧ X = w')))
      obtain ⟨nb, hnb⟩ : ∃ nb, nb = blocksN sz := ⟨_, rfl⟩
      have hnb1 : 1 ≤ nb := by rw [hnb]; exact blocksN_pos _
      have hnb2 : nb ≤ 561 := by rw [hnb]; exact blocksN_le hsz2
      have hnb3 : sz ≤ 117 * nb := by rw [hnb]; exact blocksN_fits _
      have HNX := hid (show nextR S.now J = if b0.take 11 = headL J.n sz ∧ nb ≤ J.size - J.used then some ((joinB S.now pk nb).take sz) else none by
        unfold nextR joinB
        rw [if_neg hfull, ← HPK.out, ← HB0.out, ← hsz, ← hnb])
      rw [← hnb] at HBK
      have HE := hid (fun X (gw : Nat) (h : St W0 (Blk gw (bv (headZ J.n sz)) 64 :: Blk gb (bv b0) 64 :: Disk p S :: Blk j (jourV p J) 58 :: L) X) => equal_heads hb128 h)
      clear hsz hnb
      go_wp2_with (first | (go_at_call 28; (with_reducible refine (HBG.out _).mono ?_); rintro r X6 ⟨rfl, hb6⟩; have H6 := hid (H5.out.turn hb6); clear hb6) | (refine wpList_alloc 64 rfl rfl (.agg (bv zeroB)) zero33 ?_; intro gw X7 hB hbl hbg hX7) | (refine wpList_store_box 64 _ _ rfl gw rfl rfl (bv (headZ J.n sz)) rfl 128 size33 HHZ.out (bv_one _) 64 _ hB bvz ?_; intro X8 hB8 hT8 hs8; have H8 := hid ((H6.out.newBlk hX7 hbg hB).put hB8 hT8); clear hB8 hT8 hs8 hB hbl hbg hX7))
      clear H6 HBG HHZ hso hw9 hw10 hw11 c9 c10 z0 z1 z2 z3 z4 H5
      refine wp_region_ord [] [(0, 1), (1, 1), (2, 2), (3, 1), (4, 1), (5, 1), (7, 1), (8, 1), (9, 1), (10, 1), (11, 1), (12, 1), (13, 1), (14, 1), (15, 1), (6, 2), (16, 1), (17, 1)] (fun X => St W0 (Blk gw (bv (headZ J.n sz)) 64 :: Blk gb (bv b0) 64 :: Disk p S :: Blk j (jourV p J) 58 :: L) X) (by kernel_rfl) (by kernel_rfl) (fun d _ c _ _ h => by cases d <;> exact h) (H8.out.turn (Below.drew (Below.refl _ _))) (fun X9 hXe hX => ?_)
      clear hXe H8
      repeat (apply wpOrd_class; ((· first | (rw [List.getElem?_toArray, List.getElem?_cons_zero]; done) | (simp only [List.getElem?_toArray, List.getElem?_cons_succ, List.getElem?_cons_zero]; exact rfl))); (· exact rfl); intro K hK; apply Exists.intro; refine And.intro (fun X' hX' => ?_) ?_; (· obtain ⟨j0, j1, j2, j3, j4⟩ := jour_cells hX'.at4.blk; clear hX'; go_simp; (try go_bits); first | done | exact rfl | exact ⟨rfl, rfl⟩); go_simp; refine hK _ _ ?_; clear hK K)
      (apply wpOrd_comes; ((· first | (rw [List.getElem?_toArray, List.getElem?_cons_zero]; done) | (simp only [List.getElem?_toArray, List.getElem?_cons_succ, List.getElem?_cons_zero]; exact rfl))); intro N hN)
      go_wp2_with (go_at_call 29; (with_reducible refine (HE.out _ _ hX).mono ?_); rintro r X10 ⟨rfl, rfl⟩)
      refine hN _ _ (fun _ => hX) ?_
      clear hN N HE
      cases hE : (b0.take 11 == headL J.n sz)
      · have HNX := hid (HNX.out.trans (if_neg (by rintro ⟨h, _⟩; rw [h] at hE; simp at hE)))
        clear hE
        repeat (first | (apply wpOrd_class; ((· first | (rw [List.getElem?_toArray, List.getElem?_cons_zero]; done) | (simp only [List.getElem?_toArray, List.getElem?_cons_succ, List.getElem?_cons_zero]; exact rfl))); (· exact rfl); intro K hK; apply Exists.intro; refine And.intro (fun X' hX' => ?_) ?_; (· obtain ⟨j0, j1, j2, j3, j4⟩ := jour_cells hX'.at4.blk; clear hX'; go_simp; (try go_bits); first | done | exact rfl | exact ⟨rfl, rfl⟩); go_simp; refine hK _ _ ?_; clear hK K) | (apply wpOrd_skip1; ((· first | (rw [List.getElem?_toArray, List.getElem?_cons_zero]; done) | (simp only [List.getElem?_toArray, List.getElem?_cons_succ, List.getElem?_cons_zero]; exact rfl))); (· exact rfl); intro K hK; go_simp; refine hK _ _ ?_; clear hK K))
        (apply wpOrd_comes; ((· first | (rw [List.getElem?_toArray, List.getElem?_cons_zero]; done) | (simp only [List.getElem?_toArray, List.getElem?_cons_succ, List.getElem?_cons_zero]; exact rfl))); intro N hN)
        go_wp2_with fail
        refine hN _ _ (fun _ => hX) ?_
        repeat (first | (apply wpOrd_class; ((· first | (rw [List.getElem?_toArray, List.getElem?_cons_zero]; done) | (simp only [List.getElem?_toArray, List.getElem?_cons_succ, List.getElem?_cons_zero]; exact rfl))); (· exact rfl); intro K hK; apply Exists.intro; refine And.intro (fun X' hX' => ?_) ?_; (· obtain ⟨j0, j1, j2, j3, j4⟩ := jour_cells hX'.at4.blk; clear hX'; go_simp; (try go_bits); first | done | exact rfl | exact ⟨rfl, rfl⟩); go_simp; refine hK _ _ ?_; clear hK K) | (apply wpOrd_skip1; ((· first | (rw [List.getElem?_toArray, List.getElem?_cons_zero]; done) | (simp only [List.getElem?_toArray, List.getElem?_cons_succ, List.getElem?_cons_zero]; exact rfl))); (· exact rfl); intro K hK; go_simp; refine hK _ _ ?_; clear hK K))
        refine wpOrd_done ?_
        have HX := hid hX
        clear hX
        go_wp2_with fail
        go_ret3
        rw [HNX.out]
        exact ⟨rfl, HX.out.drop.drop⟩
      · have hE' : b0.take 11 = headL J.n sz := by simpa using hE
        clear hE
        repeat (first | (apply wpOrd_class; ((· first | (rw [List.getElem?_toArray, List.getElem?_cons_zero]; done) | (simp only [List.getElem?_toArray, List.getElem?_cons_succ, List.getElem?_cons_zero]; exact rfl))); (· exact rfl); intro K hK; apply Exists.intro; refine And.intro (fun X' hX' => ?_) ?_; (· obtain ⟨j0, j1, j2, j3, j4⟩ := jour_cells hX'.at4.blk; clear hX'; go_simp; (try go_bits); first | done | exact rfl | exact ⟨rfl, rfl⟩); go_simp; refine hK _ _ ?_; clear hK K) | (apply wpOrd_skip1; ((· first | (rw [List.getElem?_toArray, List.getElem?_cons_zero]; done) | (simp only [List.getElem?_toArray, List.getElem?_cons_succ, List.getElem?_cons_zero]; exact rfl))); (· exact rfl); intro K hK; go_simp; refine hK _ _ ?_; clear hK K))
        (apply wpOrd_comes; ((· first | (rw [List.getElem?_toArray, List.getElem?_cons_zero]; done) | (simp only [List.getElem?_toArray, List.getElem?_cons_succ, List.getElem?_cons_zero]; exact rfl))); intro N hN)
        go_wp2_with (go_at_call 17; (with_reducible refine (HBK.out _).mono ?_); rintro r w1 ⟨rfl, rfl⟩)
        refine hN _ _ (fun _ => hX) ?_
        clear hN N
        by_cases hfit : nb ≤ J.size - J.used
        rotate_left
        · have HNX := hid (HNX.out.trans (if_neg (by rintro ⟨_, h⟩; exact hfit h)))
          have hf1 : decide ((J.size : Int) - (J.used : Int) < (nb : Int)) = true := decide_eq_true (by omega)
          repeat (apply wpOrd_class; ((· first | (rw [List.getElem?_toArray, List.getElem?_cons_zero]; done) | (simp only [List.getElem?_toArray, List.getElem?_cons_succ, List.getElem?_cons_zero]; exact rfl))); (· exact rfl); intro K hK; apply Exists.intro; refine And.intro (fun X' hX' => ?_) ?_; (· obtain ⟨j0, j1, j2, j3, j4⟩ := jour_cells hX'.at4.blk; clear hX'; go_simp; (try go_bits); first | done | exact rfl | exact ⟨rfl, rfl⟩); go_simp; refine hK _ _ ?_; clear hK K)
          refine wpOrd_done ?_
          have HX := hid hX
          clear hX hf1
          go_wp2_with fail
          go_ret3
          rw [HNX.out]
          exact ⟨rfl, HX.out.drop.drop⟩
        · have HNX := hid (HNX.out.trans (if_pos ⟨hE', hfit⟩))
          have hf1 : decide ((J.size : Int) - (J.used : Int) < (nb : Int)) = false := decide_eq_false (by omega)
          repeat (apply wpOrd_class; ((· first | (rw [List.getElem?_toArray, List.getElem?_cons_zero]; done) | (simp only [List.getElem?_toArray, List.getElem?_cons_succ, List.getElem?_cons_zero]; exact rfl))); (· exact rfl); intro K hK; apply Exists.intro; refine And.intro (fun X' hX' => ?_) ?_; (· obtain ⟨j0, j1, j2, j3, j4⟩ := jour_cells hX'.at4.blk; clear hX'; go_simp; (try go_bits); first | done | exact rfl | exact ⟨rfl, rfl⟩); go_simp; refine hK _ _ ?_; clear hK K)
          refine wpOrd_done ?_
          have HX := hid hX.drop
          clear hX hf1 hE'
          obtain ⟨i5, hi, hiz, his, hib⟩ := info_parts info5
          have HI := hid (And.intro hi (And.intro hiz (And.intro his hib)))
          clear hi hiz his hib
          have HJ1 := hid (show bvL (joinB S.now pk 1) = [] ++ bvL (b0.drop 11) by rw [joinB_one, ← HB0.out]; rfl)
          have HDL := hid (show (bvL (b0.drop 11)).length = 117 * 1 by rw [bvL_len, List.length_drop, hb128])
          go_wp2_with (first | (refine wpList_buildSlice0 rfl rfl Tryd.underlying40 be5.size ?_; intro gs X12 hS hgs hges hX12; have H12 := hid (HX.out.newRow0 (e := 5) (s := 1) hX12 hges hS); have HNW := hid (blk_tail H12.out.at2); clear hS hgs hges hX12) | (refine wpList_append_at _ _ _ rfl (.slice (some ⟨gs, 0, none⟩) 0 0) rfl ⟨gb, 11, none⟩ 117 117 rfl rfl 5 i5 (.int .u8 0) 1 1 Tryd.underlying40 HI.out.1 HI.out.2.1 HI.out.2.2.1 HI.out.2.2.2 rfl (by decide) 0 [] H12.out.row (bvL (b0.drop 11)) HDL.out HNW.out (bvL_one _) (by unfold maxLen; omega) (by omega) ?_; intro v' X13 hO hT hfr; have H13 := hid (H12.out.grow hO hT hfr); clear hO hT hfr))
          rw [← HJ1.out] at H13
          have H13 := hid (show St W0 (Row v' 5 1 117 (bvL (joinB S.now pk 1)) :: Blk gb (bv b0) 64 :: Disk p S :: Blk j (jourV p J) 58 :: L) X13 from H13.out)
          obtain ⟨A, c, rfl, _⟩ := row_slice H13.out
          clear H12 HNW HX HJ1 HDL
          go_loopw [6, 9, 10] (fun er v k X => ∃ (n : Nat) (A : Option Addr) (c : Nat) (bx : Bk), 1 ≤ n ∧ n ≤ nb ∧ er = .int .i64 0 ∧ k = .int .i64 n ∧ v = .slice A (117 * n) c ∧ bx.length = 128 ∧ Hid (St W0 (Row (.slice A (117 * n) c) 5 1 (117 * n) (bvL (joinB S.now pk n)) :: Blk gb (bv bx) 64 :: Disk p S :: Blk j (jourV p J) 58 :: L) X)) (fun _ _ k _ => nb - (intOf k).toNat)
          case atStart => exact ⟨1, A, c, b0, Nat.le_refl _, hnb1, rfl, rfl, rfl, hb128, H13⟩
          case round =>
            clear H13
            obtain ⟨n, A, c, bx, hn1, hn2, rfl, rfl, rfl, hbx, HS⟩ := hrel
            by_cases hlt : n < nb
            · have e1 : (n : Int) < (nb : Int) := by omega
              obtain ⟨bq, hbq⟩ : ∃ bq, bq = S.now.getD (pk + n) zeroB := ⟨_, rfl⟩
              have hbq2 : bq.length = 128 := by rw [hbq]; exact full_getD HOK.out.now _
              have HRK := hid (show ∀ (X : World) (L' : List Atm), St W0 (Disk p S :: L') X → Calls Tryd.prog 22 #[.pointer (some ⟨p, 0, none⟩), .int .i64 ((pk : Int) + (n : Int))] X fun x X' => x = .returned (.tuple #[.agg (bv bq), .int .i64 0]) ∧ St W0 (Disk p S :: L') X' from fun X L' hX => by
                have hpk2 := HPK.out
                have hat : S.at_ ((pk + n : Nat) : Int) = 0 := by rw [at_in (by omega), hoff]; rfl
                refine (read_rd (i := ((pk + n : Nat) : Int)) hX HOK.out).mono fun r X' hx => ⟨by rw [hx.1, hat, hbq]; unfold DS.rd; rw [if_pos hat, Int.toNat_natCast], hx.2⟩)
              have HJN := hid (show bvL (joinB S.now pk (n + 1)) = bvL (joinB S.now pk n) ++ bvL (bq.drop 11) by rw [joinB_succ, ← hbq]; unfold bvL; rw [List.map_append])
              have HDL := hid (show (bvL (bq.drop 11)).length = 117 * 1 by rw [bvL_len, List.length_drop, hbq2])
              have HBQ := hid ((bv_size bq).trans hbq2)
              have HBX := hid ((bv_size bx).trans hbx)
              clear hbq
              go_wp2_with (go_at_call 17; (with_reducible refine (HBK.out _).mono ?_); rintro r w1 ⟨rfl, rfl⟩)
              refine wp_region_ord [] [(0, 1), (1, 1), (2, 1), (3, 1), (4, 1), (5, 1), (6, 1), (7, 1), (8, 1), (9, 1), (10, 1), (11, 1), (12, 1), (13, 1), (14, 1), (15, 2), (16, 1), (17, 1), (18, 1), (19, 2), (20, 1)] (fun X => St W0 (Row (.slice A (117 * n) c) 5 1 (117 * n) (bvL (joinB S.now pk n)) :: Disk p S :: Blk j (jourV p J) 58 :: L) X) (by kernel_rfl) (by kernel_rfl) (fun d _ c _ _ h => by cases d <;> exact h) (HS.out.drop2.turn (Below.drew (Below.refl _ _))) (fun X hXe _ => ?_)
              have HX := hid (show St W0 (Row (.slice A (117 * n) c) 5 1 (117 * n) (bvL (joinB S.now pk n)) :: Blk gb (bv bx) 64 :: Disk p S :: Blk j (jourV p J) 58 :: L) X from by rw [hXe]; exact HS.out.turn (Below.drew (Below.refl _ _)))
              clear hXe HS
              repeat (apply wpOrd_class; ((· first | (rw [List.getElem?_toArray, List.getElem?_cons_zero]; done) | (simp only [List.getElem?_toArray, List.getElem?_cons_succ, List.getElem?_cons_zero]; exact rfl))); (· exact rfl); intro K hK; apply Exists.intro; refine And.intro (fun X' hX' => ?_) ?_; (· obtain ⟨j0, j1, j2, j3, j4⟩ := jour_cells hX'.at3.blk; clear hX'; go_simp; (try go_bits); first | done | exact rfl | exact ⟨rfl, rfl⟩); go_simp; refine hK _ _ ?_; clear hK K)
              (apply wpOrd_comes; ((· first | (rw [List.getElem?_toArray, List.getElem?_cons_zero]; done) | (simp only [List.getElem?_toArray, List.getElem?_cons_succ, List.getElem?_cons_zero]; exact rfl))); intro N hN)
              go_wp2_with (go_at_call 22; (with_reducible refine (HRK.out _ _ HX.out.at3).mono ?_); rintro r X2 ⟨rfl, hX2⟩)
              have H2 := hid hX2.back3
              clear hX2 HX
              refine hN _ _ (fun _ => H2.out.drop2) ?_
              clear hN N
              repeat (apply wpOrd_class; ((· first | (rw [List.getElem?_toArray, List.getElem?_cons_zero]; done) | (simp only [List.getElem?_toArray, List.getElem?_cons_succ, List.getElem?_cons_zero]; exact rfl))); (· exact rfl); intro K hK; apply Exists.intro; refine And.intro (fun X' hX' => ?_) ?_; (· obtain ⟨j0, j1, j2, j3, j4⟩ := jour_cells hX'.at3.blk; clear hX'; go_simp; (try go_bits); first | done | exact rfl | exact ⟨rfl, rfl⟩); go_simp; refine hK _ _ ?_; clear hK K)
              (apply wpOrd_comes; ((· first | (rw [List.getElem?_toArray, List.getElem?_cons_zero]; done) | (simp only [List.getElem?_toArray, List.getElem?_cons_succ, List.getElem?_cons_zero]; exact rfl))); intro N hN)
              go_wp2_with (refine wpList_store_box 64 _ _ rfl gb rfl rfl (bv bq) rfl 128 size33 HBQ.out (bv_one _) 64 _ H2.out.at2.blk HBX.out ?_; intro X4 hB4 hT4 hs4)
              have H4 := hid (H2.out.at2.put hB4 hT4).at2
              clear hB4 hT4 hs4 H2
              refine hN _ _ (fun _ => H4.out.drop2) ?_
              clear hN N
              repeat (apply wpOrd_class; ((· first | (rw [List.getElem?_toArray, List.getElem?_cons_zero]; done) | (simp only [List.getElem?_toArray, List.getElem?_cons_succ, List.getElem?_cons_zero]; exact rfl))); (· exact rfl); intro K hK; apply Exists.intro; refine And.intro (fun X' hX' => ?_) ?_; (· obtain ⟨j0, j1, j2, j3, j4⟩ := jour_cells hX'.at3.blk; clear hX'; go_simp; (try go_bits); first | done | exact rfl | exact ⟨rfl, rfl⟩); go_simp; refine hK _ _ ?_; clear hK K)
              refine wpOrd_done ?_
              have HNW := hid (blk_tail H4.out.at2)
              go_wp2_with (refine wpList_append_at _ _ _ rfl (.slice A (117 * n) c) rfl ⟨gb, 11, none⟩ 117 117 rfl rfl 5 i5 (.int .u8 0) 1 1 Tryd.underlying40 HI.out.1 HI.out.2.1 HI.out.2.2.1 HI.out.2.2.2 rfl (by decide) (117 * n) (bvL (joinB S.now pk n)) H4.out.row (bvL (bq.drop 11)) HDL.out HNW.out (bvL_one _) (by unfold maxLen; omega) (by omega) ?_; intro v' X5 hO hT hfr; have H6 := hid (H4.out.grow hO hT hfr); clear hO hT hfr)
              rw [← HJN.out] at H6
              obtain ⟨A2, c2, rfl, _⟩ := row_slice H6.out
              go_roundw
              case rel => exact ⟨n + 1, A2, c2, bq, by omega, by omega, rfl, by go_num, rfl, hbq2, H6⟩
              case measure => simp [intOf]; omega
            · have e1 : ¬ (n : Int) < (nb : Int) := by omega
              obtain rfl : n = nb := by omega
              obtain ⟨R, hR⟩ : ∃ R, R = joinB S.now pk n := ⟨_, rfl⟩
              have hRl : R.length = 117 * n := by rw [hR]; exact joinB_len HOK.out.now _ _
              rw [← hR] at HS HNX
              have hts : (R.take sz).length = sz := by rw [List.length_take, hRl]; omega
              have HCR := hid (HS.out.drop2.cut_row (bs := R) (s := sz) rfl hnb3 (by omega))
              have hcap : 117 * n ≤ c := by
                rcases HS.out.row.2 with ⟨_, h0⟩ | ⟨g, cap, cur, hv, _, _, hc, _⟩
                · omega
                · injection hv with _ _ e3
                  omega
              have hcap2 : sz ≤ c := by omega
              clear hR HS
              go_wp2_with (go_at_call 17; (with_reducible refine (HBK.out _).mono ?_); rintro r w1 ⟨rfl, rfl⟩)
              go_ret3
              rw [HNX.out]
              refine ⟨A, ?_, by omega, ?_⟩
              · rw [hts]; rfl
              · rw [hts]; exact HCR.out
end
end Go.Proofs.YthmchbdhikakhaaDoor
/- Open: the records that are there. -/
namespace Go.Proofs.YthmchbdhikakhaaDoor
open Go.RowKit Go.Cu
def lenOf : Value → Nat
  | .slice _ n _ => n
  | _ => 0
theorem info22 : (Tryd.prog.info? 40).map (fun i => (i.zero, i.size, i.bytes)) = some (some (.slice none 0 0), 1, 24) := by kernel_rfl
theorem zero22 (W : World) : (zeroValue 40).run Tryd.prog W = .ok (.slice none 0 0) W := by kernel_rfl
theorem size22 : (Tryd.prog.info? 40).map (·.size) = some 1 := by kernel_rfl
theorem open_nil (f s : Int) (w : World) : Calls Tryd.prog 8 #[.pointer none, .int .i64 f, .int .i64 s] w fun r w' => r = .returned (.tuple #[.pointer none, .slice none 0 0, .int .i64 1]) ∧ w = w' := by
  go_enter Tryd.func8, Tryd.ntmps8
  go_wp2_with (go_at_call 15; (with_reducible refine (fits_nil _ _ _).mono ?_); rintro r w1 ⟨rfl, rfl⟩)
  go_ret3
  exact ⟨rfl, rfl⟩
section
variable {W0 W : World} {L : List Atm} {p : Nat} {S : DS} {N : Nat}
theorem open_bad (h : St W0 (Disk p S :: L) W) (hok : S.Ok N) {f s n : Int} (hn : n = S.now.length) (hb : ¬ fitsI n f s) :
    Calls Tryd.prog 8 #[.pointer (some ⟨p, 0, none⟩), .int .i64 f, .int .i64 s] W fun r w' => r = .returned (.tuple #[.pointer none, .slice none 0 0, .int .i64 1]) ∧ W = w' := by
  have HF := hid (fits_bad h hok hn hb)
  clear h hok hn hb
  go_enter Tryd.func8, Tryd.ntmps8
  go_wp2_with (go_at_call 15; (with_reducible refine HF.out.mono ?_); rintro r w1 ⟨rfl, rfl⟩)
  go_ret3
  exact ⟨rfl, rfl⟩
/-- What is read does not hang on how often, once it is often enough. -/
theorem nextR_used {now : List Blk8} {J : Jn} {r : List UInt8} (h : nextR now J = some r) (hs : ∀ b ∈ now, b.length = 128) : J.used ≠ J.size ∧ blocksN r.length ≤ J.size - J.used := by
  unfold nextR at h
  split at h
  · cases h
  · rename_i hne
    split at h
    · rename_i hc
      refine ⟨hne, ?_⟩
      have hl := Option.some.inj h
      have hlen : r.length = sizeOfB (now.getD (J.first + J.used) zeroB) := by
        rw [← hl, List.length_take]
        have := joinB_len hs (J.first + J.used) (blocksN (sizeOfB (now.getD (J.first + J.used) zeroB)))
        unfold joinB at this
        rw [this]
        have := blocksN_fits (sizeOfB (now.getD (J.first + J.used) zeroB))
        omega
      rw [hlen]
      exact hc.2
    · cases h
set_option maxRecDepth 20000 in
set_option maxHeartbeats 4000000 in
theorem open_st (h : St W0 (Disk p S :: L) W) (hok : S.Ok N) (hoff : S.off = false) {first size : Nat} (h1 : 1 ≤ size) (h2 : first + size ≤ S.now.length) {R : List (List UInt8)} {JR : Jn} (hR : readR S.now size ⟨first, size, 0, 0⟩ = (R, JR)) :
    Calls Tryd.prog 8 #[.pointer (some ⟨p, 0, none⟩), .int .i64 first, .int .i64 size] W fun r w' => ∃ (j : Nat) (A : Option Addr) (c : Nat) (xs : List Value), r = .returned (.tuple #[.pointer (some ⟨j, 0, none⟩), .slice A R.length c, .int .i64 0]) ∧
      St W0 (Row (.slice A R.length c) 40 1 R.length xs :: Vals xs R :: Disk p S :: Blk j (jourV p JR) 58 :: L) w' := by
  have HF := hid (fits_ok (f := first) (s := size) h hok rfl ⟨by omega, by omega, by omega, by omega⟩)
  have hbig := hok.big
  have HH := hid h
  have HOK := hid hok
  have HR := hid hR
  obtain ⟨i22, hi, hiz, his, hib⟩ := info_parts info22
  have HI := hid (And.intro hi (And.intro hiz (And.intro his hib)))
  clear h hok hR hi hiz his hib
  go_enter Tryd.func8, Tryd.ntmps8
  go_wp2_with (first | (go_at_call 15; (with_reducible refine HF.out.mono ?_); rintro r w1 ⟨rfl, rfl⟩) | (refine wpList_box rfl 58 _ rfl (.agg (jourV p ⟨first, size, 0, 0⟩)) rfl ?_; intro j W1 hj hjl hjg hW1; have H1 := hid (HH.out.newBlk hW1 hjg hj).at2; clear hj hjl hjg hW1))
  go_loopw [10, 11, 12, 13] (fun o _ _ _ X => ∃ (f : Nat) (J : Jn) (A : Option Addr) (c : Nat) (rs R' : List (List UInt8)) (xs : List Value), J.first = first ∧ J.size = size ∧ J.used ≤ size ∧ J.n ≤ J.used ∧ Hid (rs.length = J.n) ∧ size - J.used ≤ f ∧ Hid (readR S.now f J = (R', JR)) ∧ Hid (rs ++ R' = R) ∧
    o = .slice A rs.length c ∧ Hid (St W0 (Row (.slice A rs.length c) 40 1 rs.length xs :: Vals xs rs :: Disk p S :: Blk j (jourV p J) 58 :: L) X)) (fun o _ _ _ _ => size - lenOf o)
  case atStart => exact ⟨size, ⟨first, size, 0, 0⟩, none, 0, [], R, [], rfl, rfl, Nat.zero_le _, Nat.le_refl _, hid rfl, Nat.le_refl _, HR, hid rfl, rfl, hid (H1.out.vals_nil.nilRow 40 1)⟩
  case round =>
    clear H1 HR
    obtain ⟨f, J, A, c, rs, R', xs, hj1, hj2, hj3, hj4, HJ5, hjf, HRD, HRR, rfl, HS⟩ := hrel
    have HJO := hid (show J.Ok S.now.length from ⟨by omega, by omega, hj4, hbig⟩)
    have HNT := hid (fun (X : World) (L' : List Atm) (hX : St W0 (Disk p S :: Blk j (jourV p J) 58 :: L') X) => next_st hX HOK.out hoff HJO.out)
    cases hnx : nextR S.now J with
    | none =>
      rw [hnx] at HNT
      have HE := hid (show R' = [] ∧ JR = J by
        have := HRD.out
        cases f with
        | zero => exact ⟨(Prod.mk.inj this).1.symm, (Prod.mk.inj this).2.symm⟩
        | succ f => rw [readR, hnx] at this; exact ⟨(Prod.mk.inj this).1.symm, (Prod.mk.inj this).2.symm⟩)
      clear hnx
      go_wp2_with (go_at_call 16; (with_reducible refine (HNT.out _ _ HS.out.rot2).mono ?_); rintro r w2 ⟨rfl, hs2⟩; have H2 := hid hs2.rot2; clear hs2)
      go_ret3
      have hrr := HRR.out
      rw [HE.out.1, List.append_nil] at hrr
      subst hrr
      rw [HE.out.2]
      exact ⟨j, A, c, xs, rfl, H2.out⟩
    | some r =>
      rw [hnx] at HNT
      obtain ⟨hu1, hu2⟩ := nextR_used hnx HOK.out.now
      have hbp := blocksN_pos r.length
      obtain ⟨f', rfl⟩ : ∃ f', f = f' + 1 := ⟨f - 1, by omega⟩
      have HRD := hid (show ∃ R2, R' = r :: R2 ∧ readR S.now f' (J.more r.length) = (R2, JR) by
        have := HRD.out
        rw [readR, hnx] at this
        exact ⟨_, (Prod.mk.inj this).1.symm, by rw [← (Prod.mk.inj this).2]⟩)
      clear hnx
      have HBK := hid (show ∀ X, r.length ≤ 65535 → Calls Tryd.prog 17 #[.int .i64 r.length] X fun x X' => x = .returned (.int .i64 (blocksN r.length)) ∧ X = X' from fun X hr => (blocks_any (r.length : Int) X).mono (fun x w' hx => ⟨by rw [hx.1, blocksI_nat hr], hx.2⟩))
      have hj6 : rs.length ≤ 8192 := by have := HJ5.out; omega
      go_wp2_with (first | (go_at_call 16; (with_reducible refine (HNT.out _ _ HS.out.rot2).mono ?_); rintro e w2 ⟨B, rfl, hr6, hs2⟩; have H2 := hid hs2.at4; clear hs2) | (refine wpList_buildSlice1 _ rfl (.slice B r.length r.length) (by simp [Act.eval]) rfl Tryd.underlying22 zero22 size22 (by decide) (by decide) rfl ?_; intro gs X1 hS hgs hges hX1b; have HS2 := hid (H2.out.turn hX1b); have HNW := hid (news_box hS [.slice B r.length r.length] rfl); clear hS hgs hges hX1b) | (refine wpList_append_at _ _ _ rfl (.slice A rs.length c) rfl ⟨gs, 0, none⟩ 1 1 rfl rfl 40 i22 (.slice none 0 0) 1 24 Tryd.underlying22 HI.out.1 HI.out.2.1 HI.out.2.2.1 HI.out.2.2.2 rfl (by decide) rs.length xs HS2.out.row [.slice B r.length r.length] rfl HNW.out (by simp [Value.oneCell']) (by unfold maxLen; omega) (by omega) ?_; intro v' X2 hO2 hT2 hfr; have HS3 := hid (HS2.out.grow hO2 hT2 hfr); clear hO2 hT2 hfr))
      have HBK := hid (fun X => HBK.out X hr6)
      obtain ⟨nb, hnb⟩ : ∃ nb, nb = blocksN r.length := ⟨_, rfl⟩
      have HNB := hid hnb
      rw [← hnb] at HBK hu2 hbp
      clear hnb H2 HS2 HNW HNT
      refine wp_region_ord [10] [(0, 1), (1, 1), (2, 1), (3, 1), (4, 1), (5, 1), (6, 2), (7, 1), (8, 1), (9, 1), (10, 2)] (fun X => St W0 (Blk j (jourV p J) 58 :: Row v' 40 1 (rs.length + 1) (xs ++ [.slice B r.length r.length]) :: Vals [.slice B r.length r.length] [r] :: Disk p S :: Vals xs rs :: L) X) (by kernel_rfl) (by kernel_rfl) (fun d _ c _ _ h => by cases d <;> exact h) (HS3.out.at4.turn (Below.drew (Below.refl _ _))) (fun X hXe hX => ?_)
      clear hXe HS3
      repeat (apply wpOrd_class; ((· first | (rw [List.getElem?_toArray, List.getElem?_cons_zero]; done) | (simp only [List.getElem?_toArray, List.getElem?_cons_succ, List.getElem?_cons_zero]; exact rfl))); (· exact rfl); intro K hK; apply Exists.intro; refine And.intro (fun X' hX' => ?_) ?_; (· obtain ⟨j0, j1, j2, j3, j4⟩ := jour_cells hX'.blk; clear hX'; go_simp; (try go_bits); first | done | exact rfl | exact ⟨rfl, rfl⟩); go_simp; refine hK _ _ ?_; clear hK K)
      (apply wpOrd_comes; ((· first | (rw [List.getElem?_toArray, List.getElem?_cons_zero]; done) | (simp only [List.getElem?_toArray, List.getElem?_cons_succ, List.getElem?_cons_zero]; exact rfl))); intro N hN)
      go_wp2_with (go_at_call 17; (with_reducible refine (HBK.out _).mono ?_); rintro e X3 ⟨rfl, rfl⟩)
      refine hN _ _ (fun _ => hX) ?_
      clear hN N
      repeat (apply wpOrd_class; ((· first | (rw [List.getElem?_toArray, List.getElem?_cons_zero]; done) | (simp only [List.getElem?_toArray, List.getElem?_cons_succ, List.getElem?_cons_zero]; exact rfl))); (· exact rfl); intro K hK; apply Exists.intro; refine And.intro (fun X' hX' => ?_) ?_; (· obtain ⟨j0, j1, j2, j3, j4⟩ := jour_cells hX'.blk; clear hX'; go_simp; (try go_bits); first | done | exact rfl | exact ⟨rfl, rfl⟩); go_simp; refine hK _ _ ?_; clear hK K)
      obtain ⟨y0, y1, y2, y3, y4⟩ := jour_cells hX.blk
      have f3 := frozen_of_row X j 3 _ _ hX.blk
      (apply wpOrd_comes; ((· first | (rw [List.getElem?_toArray, List.getElem?_cons_zero]; done) | (simp only [List.getElem?_toArray, List.getElem?_cons_succ, List.getElem?_cons_zero]; exact rfl))); intro N hN)
      go_wp2_with fail
      have H5 := hid (hX.setCell 3 (.int .i64 (J.used + nb)))
      clear hX y0 y1 y2 y3 y4 f3
      refine hN _ _ (fun h => by cases h) ?_
      clear hN N
      refine wpOrd_done ?_
      obtain ⟨Y, hY⟩ : ∃ Y, Y = X.setCell ⟨j, 3, none⟩ (.int .i64 (J.used + nb)) := ⟨_, rfl⟩
      rw [← hY] at H5
      have z4 : Y.cell? ⟨j, 4, none⟩ = some (.int .i64 J.n) := (cell_of_row Y j 4 _ _ _ H5.out.blk).trans rfl
      have f4 := frozen_of_row Y j 4 _ _ H5.out.blk
      simp only [← hY]
      clear hY
      go_wp2_with fail
      have H6 := hid (H5.out.setCell 4 (.int .i64 (J.n + 1)))
      rw [show ((jourV p J).setIfInBounds 3 (.int .i64 (J.used + nb))).setIfInBounds 4 (.int .i64 (J.n + 1)) = jourV p (J.more r.length) from by rw [HNB.out]; rfl] at H6
      clear H5 z4 f4
      have H7 := hid H6.out.at3.at5.vals_join.at2.at4.at3.at4
      obtain ⟨R2, hR2, hR3⟩ := HRD.out
      have HR2 := hid hR2
      have HR3 := hid hR3
      have hmu : (J.more r.length).used = J.used + nb := by rw [HNB.out]; rfl
      have hmn : (J.more r.length).n = J.n + 1 := rfl
      clear H6 hR2 hR3 HRD HBK
      obtain ⟨A2, c2, rfl, _⟩ := row_slice H7.out
      go_roundw
      case rel => exact ⟨f', J.more r.length, A2, c2, rs ++ [r], R2, xs ++ [.slice B r.length r.length], hj1, hj2, by omega, by omega, hid (by rw [List.length_append, HJ5.out]; rfl), by omega, HR3, hid (by rw [← HRR.out, HR2.out]; simp), by simp, hid (by rw [List.length_append]; exact H7.out)⟩
      case measure => simp [lenOf]; have := HJ5.out; omega
end
end Go.Proofs.YthmchbdhikakhaaDoor
/- Texts and records in memory: what a row of slices of bytes holds, what a row of texts holds. -/
namespace Go.Cu
open Go Go.RowKit
def strB (r : List UInt8) : ByteArray := ⟨r.toArray⟩
theorem strB_toList (r : List UInt8) : (strB r).toList = r := by rw [Lib.toList_data]; rfl
theorem strB_size (r : List UInt8) : (strB r).size = r.length := by simp [strB, ByteArray.size]
/-- A text. -/
def sv (r : List UInt8) : Value := .string (strB r)
theorem sv_eq (r : List UInt8) : sv r = .string (strB r) := rfl
/-- Records that can be read behind a slice. -/
def RecsIn (W : World) (A : Option Addr) (rs : List (List UInt8)) : Prop := ∀ i r, rs[i]? = some r → ∃ g o B c, A = some ⟨g, o, none⟩ ∧ W.cell? ⟨g, o + i, none⟩ = some (.slice B r.length c) ∧ r.length ≤ c ∧ c ≤ maxLen ∧ BytesIn W B r
/-- Texts that can be read behind a slice. -/
def TextsIn (W : World) (A : Option Addr) (rs : List (List UInt8)) : Prop := ∀ i r, rs[i]? = some r → ∃ g o, A = some ⟨g, o, none⟩ ∧ W.cell? ⟨g, o + i, none⟩ = some (sv r)
theorem cell_lt {W : World} {g o : Nat} {v : Value} (h : W.cell? ⟨g, o, none⟩ = some v) : g < W.heap.size := World.block_lt_of_cell? W _ h
theorem BytesIn.below {W W' : World} {A : Option Addr} {r : List UInt8} (h : BytesIn W A r) (hb : Below W.heap.size W W') : BytesIn W' A r := fun i b hi => by
  obtain ⟨g, o, e, hg, hc⟩ := h i b hi
  exact ⟨g, o, e, Nat.lt_of_lt_of_le hg hb.size, (hb.cell (p := ⟨g, o + i, none⟩) hg).trans hc⟩
theorem RecsIn.below {W W' : World} {A : Option Addr} {rs : List (List UInt8)} (h : RecsIn W A rs) (hb : Below W.heap.size W W') : RecsIn W' A rs := fun i r hi => by
  obtain ⟨g, o, B, c, e, hc, h1, h2, h3⟩ := h i r hi
  exact ⟨g, o, B, c, e, (hb.cell (p := ⟨g, o + i, none⟩) (cell_lt hc)).trans hc, h1, h2, h3.below hb⟩
theorem TextsIn.below {W W' : World} {A : Option Addr} {rs : List (List UInt8)} (h : TextsIn W A rs) (hb : Below W.heap.size W W') : TextsIn W' A rs := fun i r hi => by
  obtain ⟨g, o, e, hc⟩ := h i r hi
  exact ⟨g, o, e, (hb.cell (p := ⟨g, o + i, none⟩) (cell_lt hc)).trans hc⟩
/-- A row of slices of bytes, with the bytes. -/
def Recs (v : Value) (rs : List (List UInt8)) : Atm :=
  ⟨fun F W => ∃ xs, Star [Row v 40 1 rs.length xs, Vals xs rs] F W, fun {_ _ _} ⟨xs, h⟩ hk => ⟨xs, Star.keep h hk⟩, fun {_ _ _} ⟨xs, h⟩ hm => ⟨xs, Star.mono h hm⟩⟩
/-- A row of texts. -/
abbrev Strs (v : Value) (rs : List (List UInt8)) : Atm := Row v 9 1 rs.length (rs.map sv)
section
variable {W0 W : World} {L : List Atm} {v : Value} {xs : List Value} {rs : List (List UInt8)}
theorem St.recs (h : St W0 (Row v 40 1 rs.length xs :: Vals xs rs :: L) W) : St W0 (Recs v rs :: L) W := by
  obtain ⟨hb, G, ha, H, hb', r⟩ := h
  refine ⟨hb, fun g => G g ∨ H g, ⟨xs, G, (Row v 40 1 rs.length xs).mono ha fun g _ hf => ⟨⟨hf.1, .inl hf.2⟩, hf.2⟩, H, (Vals xs rs).mono hb' fun g _ hf => ⟨⟨⟨hf.1.1, .inr hf.2⟩, hf.1.2⟩, hf.2⟩, trivial⟩, r.mono fun g _ hf => ⟨hf.1.1, fun h => h.elim hf.1.2 hf.2⟩⟩
theorem St.unrecs (h : St W0 (Recs v rs :: L) W) : ∃ xs, St W0 (Row v 40 1 rs.length xs :: Vals xs rs :: L) W := by
  obtain ⟨hb, G, ⟨xs, G1, h1, G2, h2, _⟩, r⟩ := h
  refine ⟨xs, hb, fun g => G g ∧ G1 g, (Row v 40 1 rs.length xs).mono h1 fun g _ hf => ⟨hf.1.1, hf.1.2, hf.2⟩, fun g => G g ∧ G2 g, (Vals xs rs).mono h2 fun g _ hf => ⟨⟨hf.1.1.1, fun h => hf.1.2 h.2⟩, hf.1.1.2, hf.2⟩, r.mono fun g _ hf => ⟨⟨hf.1, fun h => hf.2 h.1⟩, fun h => hf.2 h.1⟩⟩
theorem row_at {e n : Nat} (h : St W0 (Row v e 1 n xs :: L) W) {A : Option Addr} {c : Nat} (hv : v = .slice A n c) {i : Nat} {x : Value} (hx : xs[i]? = some x) : ∃ g, A = some ⟨g, 0, none⟩ ∧ W.cell? ⟨g, i, none⟩ = some x := by
  have hxl := h.row.1
  have hi : i < n := by
    rcases Nat.lt_or_ge i n with h | h
    · exact h
    · rw [List.getElem?_eq_none (by omega)] at hx; cases hx
  rcases h.row.2 with ⟨_, h1⟩ | ⟨g, cap, cur, e1, _, hh, hc, hm, _, hp⟩
  · omega
  · have e2 : A = some ⟨g, 0, none⟩ := by rw [hv] at e1; injection e1
    refine ⟨g, e2, ?_⟩
    rw [cell_of_row W g i _ _ _ hh]
    rw [← hp, List.getElem?_take_of_lt (by omega)] at hx
    simpa using hx
theorem St.recsIn {A : Option Addr} {c : Nat} (h : St W0 (Recs (.slice A rs.length c) rs :: L) W) : RecsIn W A rs := fun i r hi => by
  obtain ⟨xs, hx⟩ := h.unrecs
  obtain ⟨B, cB, e1, h1, h2, h3⟩ := hx.at2.vals.2 i r hi
  obtain ⟨g, e2, hc⟩ := row_at hx rfl e1
  exact ⟨g, 0, B, cB, e2, by rw [Nat.zero_add]; exact hc, h1, h2, h3.bytes⟩
theorem St.textsIn {A : Option Addr} {c : Nat} (h : St W0 (Strs (.slice A rs.length c) rs :: L) W) : TextsIn W A rs := fun i r hi => by
  obtain ⟨g, e2, hc⟩ := row_at h rfl (show (rs.map sv)[i]? = some (sv r) by rw [List.getElem?_map, hi]; rfl)
  exact ⟨g, 0, e2, by rw [Nat.zero_add]; exact hc⟩
end
end Go.Cu
namespace Go.Proofs.YthmchbdhikakhaaDoor
open Go.RowKit Go.Cu
/-- Bytes as a text. -/
theorem conv_bytes {W : World} {A : Option Addr} {r : List UInt8} (h : BytesIn W A r) (n c : Nat) (hn : n = r.length) : (convert 40 9 (.slice A n c)).run Tryd.prog W = .ok (sv r) W := by
  subst hn
  match r, h with
  | [], _ =>
    rw [List.length_nil, run_convert_bytes_string (P := Tryd.prog) W 40 9 5 A 0 c Tryd.underlying40 Tryd.underlying5 Tryd.underlying9]
    cases A with
    | none => simp [Conv.bytesToString]; rfl
    | some a =>
      have hl := run_loadCells_list (P := Tryd.prog) W a [] (fun j v hj => by cases hj)
      simp [Conv.bytesToString, hl] at hl ⊢
      rfl
  | b :: r, h =>
    obtain ⟨g, o, rfl, _, _⟩ := h 0 b rfl
    have h1 := run_convert_bytes_arg (P := Tryd.prog) W 40 5 Tryd.underlying40 Tryd.underlying5 g o (b :: r).length c (numsB (b :: r)) (by simp [numsB]) (fun i hi => by
      obtain ⟨g', o', e, _, hc⟩ := h i ((b :: r)[i]) (List.getElem?_eq_getElem hi)
      cases e
      rw [hc, numsB_getD hi, List.getD_eq_getElem?_getD, List.getElem?_eq_getElem hi]
      rfl) 9 Tryd.underlying9
    rw [h1]
    have : strOfNums (numsB (b :: r)) = strB (b :: r) := by
      have e := congrArg List.toArray (numsB_bytes (b :: r))
      unfold strOfNums strB
      congr 1
    rw [this]
    rfl
theorem size9 : (Tryd.prog.info? 9).map (·.size) = some 1 := by kernel_rfl
theorem zero9 (W : World) : (zeroValue 9).run Tryd.prog W = .ok (.string ByteArray.empty) W := by kernel_rfl
theorem info9 : (Tryd.prog.info? 9).map (fun i => (i.zero, i.size, i.bytes)) = some (some (.string ByteArray.empty), 1, 16) := by kernel_rfl
section
variable {W0 W : World} {L : List Atm}
end
end Go.Proofs.YthmchbdhikakhaaDoor
/- Records among a law's parameters. -/
namespace Go.Cu
open Go Go.RowKit Go.ChangeShapes Go.WideShapes
section
variable {H : Type} {enc : TypeId × Value → H} {P : Program} {w : World} {base : Nat} {spare : Nat → Bool} {held : Bool}
theorem bytes_cells2 {t e : TypeId} {fuel : Nat} {cs : List Value} {x : DataW H × List MemPlace} (ht : P.underlying t = some (.slice e)) (he : P.underlying e = some (.int .u8)) (hc : P.cellsOf e = 1) (h : DataW.trod enc P w base spare held fuel t cs = some x) :
    ∃ (A : Option Addr) (c : Nat) (l : List UInt8), cs = [.slice A l.length c] ∧ l.length ≤ c ∧ c ≤ maxLen ∧ BytesIn w A l := by
  obtain ⟨A, len, cap, rfl, h1, h2, _⟩ := slice_cells ht hc (by omega) h
  obtain ⟨A', c', l, e1, h3, h4⟩ := bytes_cells ht he hc h
  have e2 : Value.slice A len cap = .slice A' l.length c' := by simpa using e1
  injection e2 with p1 p2 p3
  subst p1 p2 p3
  exact ⟨A, cap, l, rfl, h1, h2, h4⟩
theorem recs_of {e : TypeId} {b : TypeId} (he : P.underlying e = some (.slice b)) (hb : P.underlying b = some (.int .u8)) (hc : P.cellsOf b = 1) {A : Option Addr} {len : Nat}
    (h3 : ∀ i, i < len → ∃ (g o n : Nat) (cs' : List Value) (y : DataW H × List MemPlace), A = some ⟨g, o, none⟩ ∧ g < w.heap.size ∧ cs'.length = 1 ∧ (∀ k, k < 1 → w.cell? ⟨g, o + i * 1 + k, none⟩ = cs'[k]?) ∧ DataW.trod enc P w base spare held n e cs' = some y) :
    ∃ rs : List (List UInt8), rs.length = len ∧ RecsIn w A rs := by
  obtain ⟨rs, rfl, hp⟩ := choose_list (α := List UInt8) (p := fun i r => ∃ g o B c, A = some ⟨g, o, none⟩ ∧ w.cell? ⟨g, o + i, none⟩ = some (.slice B r.length c) ∧ r.length ≤ c ∧ c ≤ maxLen ∧ BytesIn w B r) len (fun i hi => by
    obtain ⟨g, o, n, cs', y, hA, hg, hl, hcell, hy⟩ := h3 i hi
    obtain ⟨B, c, r, rfl, h1, h2, h4⟩ := bytes_cells2 he hb hc hy
    have h5 := hcell 0 (by omega)
    exact ⟨r, g, o, B, c, hA, by simpa using h5, h1, h2, h4⟩)
  exact ⟨rs, rfl, hp⟩
theorem param_recs {r : Reach} {b0 : Nat} {t e b : TypeId} {v : Value} {d : DataW H} {p : List MemPlace} (ht : P.underlying t = some (.slice e)) (he : P.underlying e = some (.slice b)) (hb : P.underlying b = some (.int .u8)) (hc : P.cellsOf b = 1) (hc1 : P.cellsOf e = 1)
    (hv : Value.okWide P w r b0 t v) (h : DataW.Trod enc P w base spare held t v d p) : ∃ (A : Option Addr) (c : Nat) (rs : List (List UInt8)), v = .slice A rs.length c ∧ RecsIn w A rs := by
  obtain ⟨A, len, cap, rfl, h1, h2, h3⟩ := param_slice ht hc1 (by omega) hv h
  obtain ⟨rs, rfl, hp⟩ := recs_of he hb hc h3
  exact ⟨A, cap, rs, rfl, hp⟩
theorem recs_cells {t e b : TypeId} {fuel : Nat} {cs : List Value} {x : DataW H × List MemPlace} (ht : P.underlying t = some (.slice e)) (he : P.underlying e = some (.slice b)) (hb : P.underlying b = some (.int .u8)) (hc : P.cellsOf b = 1) (hc1 : P.cellsOf e = 1)
    (h : DataW.trod enc P w base spare held fuel t cs = some x) : ∃ (A : Option Addr) (c : Nat) (rs : List (List UInt8)), cs = [.slice A rs.length c] ∧ RecsIn w A rs := by
  obtain ⟨A, len, cap, rfl, h1, h2, h3⟩ := slice_cells ht hc1 (by omega) h
  obtain ⟨rs, rfl, hp⟩ := recs_of he hb hc h3
  exact ⟨A, cap, rs, rfl, hp⟩
end
end Go.Cu
/- CustumalApart's first parameter, opened. -/
namespace Go.Proofs.YthmchbdhikakhaaDoor
open Go.ChangeShapes Go.WideShapes Go.ChangeAt Go.RowKit Go.Cu
section
variable {H : Type} {enc : TypeId × Value → H} {w : World} {base : Nat} {spare : Nat → Bool} {held : Bool}
set_option maxRecDepth 20000 in
theorem two_open {r : Reach} {b0 : Nat} {v : Value} {d : DataW H} {p : List MemPlace} (hv : Value.okWide Tryd.prog w r b0 23 v) (h : DataW.Trod enc Tryd.prog w base spare held 23 v d p) :
    ∃ (A : Nat → Option Addr) (c : Nat → Nat) (qs : Nat → List (List UInt8)), v = .agg #[.slice (A 0) (qs 0).length (c 0), .slice (A 1) (qs 1).length (c 1)] ∧ ∀ i, i < 2 → RecsIn w (A i) (qs i) := by
  simp only [Value.okWide, Tryd.underlying23] at hv
  obtain ⟨cs, rfl, hsz, _⟩ := hv
  obtain ⟨fuel, hf⟩ := h
  obtain ⟨xs, m, _, _, _, hl, hel⟩ := DataW.trod_array Tryd.underlying23 hf
  have hC : Tryd.prog.cellsOf 23 = 2 := by kernel_rfl
  have hc3 : Tryd.prog.cellsOf 22 = 1 := by kernel_rfl
  rw [hC] at hsz
  have h0 := hel 0 (by decide)
  have h1 := hel 1 (by decide)
  rw [hc3, List.getElem?_eq_getElem (by omega)] at h0 h1
  obtain ⟨A0, a0, q0, e0, r0⟩ := recs_cells Tryd.underlying22 Tryd.underlying40 Tryd.underlying5 (by kernel_rfl) (by kernel_rfl) h0
  obtain ⟨A1, a1, q1, e1, r1⟩ := recs_cells Tryd.underlying22 Tryd.underlying40 Tryd.underlying5 (by kernel_rfl) (by kernel_rfl) h1
  obtain ⟨l⟩ := cs
  match l, hsz with
  | [x, y], _ =>
    have c0 : [x] = [.slice A0 q0.length a0] := e0
    have c1 : [y] = [.slice A1 q1.length a1] := e1
    simp only [List.cons.injEq, and_true] at c0 c1
    subst c0 c1
    refine ⟨fun i => if i = 0 then A0 else A1, fun i => if i = 0 then a0 else a1, fun i => if i = 0 then q0 else q1, rfl, fun i hi => ?_⟩
    match i, hi with
    | 0, _ => exact r0
    | 1, _ => exact r1
end
end Go.Proofs.YthmchbdhikakhaaDoor
/- Words of 32 bits, turned and mixed. -/
namespace Go.Cu
open Go Go.RowKit
/-- A word turned to the right. -/
def rotr (x : UInt32) (n : Nat) : UInt32 := UInt32.ofNat (x.toNat * 2 ^ (32 - n) % 4294967296 ||| x.toNat / 2 ^ n)
def smallW (x : UInt32) (p q r : Nat) : UInt32 := rotr x p ^^^ rotr x q ^^^ UInt32.ofNat (x.toNat / 2 ^ r)
def bigW (x : UInt32) (p q r : Nat) : UInt32 := rotr x p ^^^ rotr x q ^^^ rotr x r
theorem ofInt32 {a : Nat} (h : a < 4294967296) : (BitVec.ofInt 32 (a : Int)).toNat = a := by
  rw [BitVec.ofInt_natCast, BitVec.toNat_ofNat]; exact Nat.mod_eq_of_lt h
theorem bits_or_u32 {a b : Nat} (ha : a < 4294967296) (hb : b < 4294967296) : bits .or .u32 (a : Int) (b : Int) = ((a ||| b : Nat) : Int) := by
  have hx : a ||| b < 2 ^ 32 := Nat.or_lt_two_pow (by omega) (by omega)
  show IntKind.u32.wrap ((BitVec.ofInt 32 (a : Int) ||| BitVec.ofInt 32 (b : Int)).toNat : Int) = _
  rw [BitVec.toNat_or, ofInt32 ha, ofInt32 hb, IntKind.wrap_u32]
  omega
theorem bits_xor_u32 (a b : UInt32) : bits .xor .u32 (a.toNat : Int) (b.toNat : Int) = ((a ^^^ b).toNat : Int) := by
  have ha := a.toNat_lt
  have hb := b.toNat_lt
  have hx : a.toNat ^^^ b.toNat < 2 ^ 32 := Nat.xor_lt_two_pow (by omega) (by omega)
  show IntKind.u32.wrap ((BitVec.ofInt 32 (a.toNat : Int) ^^^ BitVec.ofInt 32 (b.toNat : Int)).toNat : Int) = _
  rw [BitVec.toNat_xor, ofInt32 (by omega), ofInt32 (by omega), IntKind.wrap_u32, UInt32.toNat_xor]
  omega
theorem bits_and_u32 (a b : UInt32) : bits .and .u32 (a.toNat : Int) (b.toNat : Int) = ((a &&& b).toNat : Int) := by
  have ha := a.toNat_lt
  have hb := b.toNat_lt
  have hx : a.toNat &&& b.toNat < 2 ^ 32 := Nat.and_lt_two_pow _ (by omega)
  show IntKind.u32.wrap ((BitVec.ofInt 32 (a.toNat : Int) &&& BitVec.ofInt 32 (b.toNat : Int)).toNat : Int) = _
  rw [BitVec.toNat_and, ofInt32 (by omega), ofInt32 (by omega), IntKind.wrap_u32, UInt32.toNat_and]
  omega
theorem rotr_nat (x : UInt32) (n : Nat) : ((rotr x n).toNat : Int) = ((x.toNat * 2 ^ (32 - n) % 4294967296 ||| x.toNat / 2 ^ n : Nat) : Int) := by
  unfold rotr
  rw [UInt32.toNat_ofNat']
  have hx := x.toNat_lt
  have h2 : x.toNat / 2 ^ n < 2 ^ 32 := Nat.lt_of_le_of_lt (Nat.div_le_self _ _) (by omega)
  have h3 : x.toNat * 2 ^ (32 - n) % 4294967296 ||| x.toNat / 2 ^ n < 2 ^ 32 := Nat.or_lt_two_pow (by omega) h2
  rw [Nat.mod_eq_of_lt h3]
theorem shr_lt (x : UInt32) (n : Nat) : x.toNat / 2 ^ n < 4294967296 := Nat.lt_of_le_of_lt (Nat.div_le_self _ _) (by have := x.toNat_lt; omega)
theorem shr_nat (x : UInt32) (n : Nat) : ((UInt32.ofNat (x.toNat / 2 ^ n)).toNat : Int) = ((x.toNat / 2 ^ n : Nat) : Int) := by
  rw [UInt32.toNat_ofNat', Nat.mod_eq_of_lt (shr_lt x n)]
end Go.Cu
namespace Go.Proofs.YthmchbdhikakhaaDoor
open Go.RowKit Go.Cu
theorem rot_any (x : UInt32) {k : Int} {m n : Nat} (hmn : m + n = 32) (hs : bits .and .u64 (IntKind.u64.wrap k) 31 = (m : Int)) (w : World) : Calls Tryd.prog 38 #[.int .u32 x.toNat, .int .i64 k] w fun r w' => r = .returned (.int .u32 (rotr x n).toNat) ∧ w = w' := by
  have h1 : (0 : Int) ≤ (m : Int) := by omega
  have h2 : (m : Int) ≤ 32 := by omega
  have HV : bits .or .u32 ((x.toNat : Int) * 2 ^ m % 4294967296) ((x.toNat : Int) / 2 ^ (32 - m)) = ((rotr x n).toNat : Int) := by
    rw [rotr_nat x n, show 32 - n = m by omega, show 32 - m = n by omega]
    have e1 : (x.toNat : Int) * 2 ^ m % 4294967296 = ((x.toNat * 2 ^ m % 4294967296 : Nat) : Int) := by simp
    have e2 : (x.toNat : Int) / 2 ^ n = ((x.toNat / 2 ^ n : Nat) : Int) := by simp
    rw [e1, e2]
    exact bits_or_u32 (Nat.mod_lt _ (by decide)) (shr_lt x n)
  clear hmn
  go_enter Tryd.func38, Tryd.ntmps38
  go_wp2
  go_ret
  exact ⟨rfl, rfl⟩
/-- The turns that a sum uses. -/
def turnsN : List Nat := [6, 11, 25, 2, 13, 22, 7, 18, 17, 19]
theorem turn_any (x : UInt32) {n : Nat} (hn : n ∈ turnsN) (w : World) : Calls Tryd.prog 37 #[.int .u32 x.toNat, .int .i64 n] w fun r w' => r = .returned (.int .u32 (rotr x n).toNat) ∧ w = w' := by
  have HR := hid (show ∀ X, Calls Tryd.prog 38 #[.int .u32 x.toNat, .int .i64 (-(n : Int))] X fun r w' => r = .returned (.int .u32 (rotr x n).toNat) ∧ X = w' from fun X => by
    simp only [turnsN, List.mem_cons, List.not_mem_nil, or_false] at hn
    rcases hn with rfl | rfl | rfl | rfl | rfl | rfl | rfl | rfl | rfl | rfl
    · exact rot_any x (m := 26) rfl (by decide) X
    · exact rot_any x (m := 21) rfl (by decide) X
    · exact rot_any x (m := 7) rfl (by decide) X
    · exact rot_any x (m := 30) rfl (by decide) X
    · exact rot_any x (m := 19) rfl (by decide) X
    · exact rot_any x (m := 10) rfl (by decide) X
    · exact rot_any x (m := 25) rfl (by decide) X
    · exact rot_any x (m := 14) rfl (by decide) X
    · exact rot_any x (m := 15) rfl (by decide) X
    · exact rot_any x (m := 13) rfl (by decide) X)
  have h1 : n ≤ 25 := by
    simp only [turnsN, List.mem_cons, List.not_mem_nil, or_false] at hn
    omega
  clear hn
  go_enter Tryd.func37, Tryd.ntmps37
  go_wp2_with (go_at_call 38; (with_reducible refine (HR.out _).mono ?_); rintro r w1 ⟨rfl, rfl⟩)
  go_ret
  exact ⟨rfl, rfl⟩
theorem big_ok (x : UInt32) {p q r : Nat} (hp : p ∈ turnsN) (hq : q ∈ turnsN) (hr : r ∈ turnsN) {pi qi ri : Int} (ep : pi = p) (eq : qi = q) (er : ri = r) (w : World) :
    Calls Tryd.prog 35 #[.int .u32 x.toNat, .int .i64 pi, .int .i64 qi, .int .i64 ri] w fun v w' => v = .returned (.int .u32 (bigW x p q r).toNat) ∧ w = w' := by
  subst ep eq er
  have HT := hid (fun (n : Nat) (hn : n ∈ turnsN) X => turn_any x hn X)
  have HP := hid hp
  have HQ := hid hq
  have HR := hid hr
  obtain ⟨a, ha⟩ : ∃ a, a = rotr x p ^^^ rotr x q := ⟨_, rfl⟩
  obtain ⟨b, hb⟩ : ∃ b, b = bigW x p q r := ⟨_, rfl⟩
  have X1 : bits .xor .u32 ((rotr x p).toNat : Int) ((rotr x q).toNat : Int) = (a.toNat : Int) := by rw [ha]; exact bits_xor_u32 _ _
  have X2 : bits .xor .u32 (a.toNat : Int) ((rotr x r).toNat : Int) = (b.toNat : Int) := by rw [hb, ha]; exact bits_xor_u32 _ _
  rw [← hb]
  clear hp hq hr ha hb
  go_enter Tryd.func35, Tryd.ntmps35
  go_wp2_with (go_at_call 37; first | ((with_reducible refine (HT.out p HP.out _).mono ?_); rintro v w1 ⟨rfl, rfl⟩) | ((with_reducible refine (HT.out q HQ.out _).mono ?_); rintro v w1 ⟨rfl, rfl⟩) | ((with_reducible refine (HT.out r HR.out _).mono ?_); rintro v w1 ⟨rfl, rfl⟩))
  go_ret
  exact ⟨rfl, rfl⟩
theorem small_ok (x : UInt32) {p q r : Nat} (hp : p ∈ turnsN) (hq : q ∈ turnsN) (hr : r ≤ 20) {pi qi ri : Int} (ep : pi = p) (eq : qi = q) (er : ri = r) (w : World) :
    Calls Tryd.prog 36 #[.int .u32 x.toNat, .int .i64 pi, .int .i64 qi, .int .i64 ri] w fun v w' => v = .returned (.int .u32 (smallW x p q r).toNat) ∧ Below w.heap.size w w' := by
  subst ep eq er
  have HT := hid (fun (n : Nat) (hn : n ∈ turnsN) X => turn_any x hn X)
  have HP := hid hp
  have HQ := hid hq
  have X0 : (x.toNat : Int) / 2 ^ r = ((UInt32.ofNat (x.toNat / 2 ^ r)).toNat : Int) := by rw [shr_nat]; simp
  obtain ⟨a, ha⟩ : ∃ a, a = rotr x p ^^^ rotr x q := ⟨_, rfl⟩
  obtain ⟨b, hb⟩ : ∃ b, b = smallW x p q r := ⟨_, rfl⟩
  obtain ⟨c, hc⟩ : ∃ c, c = UInt32.ofNat (x.toNat / 2 ^ r) := ⟨_, rfl⟩
  rw [← hc] at X0
  have X1 : bits .xor .u32 ((rotr x p).toNat : Int) ((rotr x q).toNat : Int) = (a.toNat : Int) := by rw [ha]; exact bits_xor_u32 _ _
  have X2 : bits .xor .u32 (a.toNat : Int) (c.toNat : Int) = (b.toNat : Int) := by rw [hb, ha, hc]; exact bits_xor_u32 _ _
  rw [← hb]
  clear ha hb hc
  have h1 : (0 : Int) ≤ (r : Int) := by omega
  have h2 : (r : Int) ≤ 32 := by omega
  clear hp hq
  go_enter Tryd.func36, Tryd.ntmps36
  go_wp2_with fail
  refine wp_region_ord [] [(0, 1), (1, 1), (3, 1), (4, 1), (7, 1), (8, 1), (9, 1), (2, 2), (5, 2), (6, 1), (10, 1), (11, 1)] (fun X => X = World.drew w) (by kernel_rfl) (by kernel_rfl) (fun d _ c _ _ h => by cases d <;> exact h) rfl (fun X hXe _ => ?_)
  subst hXe
  repeat (apply wpOrd_class; ((· first | (rw [List.getElem?_toArray, List.getElem?_cons_zero]; done) | (simp only [List.getElem?_toArray, List.getElem?_cons_succ, List.getElem?_cons_zero]; exact rfl))); (· exact rfl); intro K hK; apply Exists.intro; refine And.intro (fun X' hX' => ?_) ?_; (· go_simp; (try go_bits); first | done | exact rfl | exact ⟨rfl, rfl⟩); go_simp; refine hK _ _ ?_; clear hK K)
  (apply wpOrd_comes; ((· first | (rw [List.getElem?_toArray, List.getElem?_cons_zero]; done) | (simp only [List.getElem?_toArray, List.getElem?_cons_succ, List.getElem?_cons_zero]; exact rfl))); intro N hN)
  go_wp2_with (go_at_call 37; (with_reducible refine (HT.out p HP.out _).mono ?_); rintro v w1 ⟨rfl, rfl⟩)
  refine hN _ _ (fun _ => rfl) ?_
  clear hN N
  (apply wpOrd_comes; ((· first | (rw [List.getElem?_toArray, List.getElem?_cons_zero]; done) | (simp only [List.getElem?_toArray, List.getElem?_cons_succ, List.getElem?_cons_zero]; exact rfl))); intro N hN)
  go_wp2_with (go_at_call 37; (with_reducible refine (HT.out q HQ.out _).mono ?_); rintro v w1 ⟨rfl, rfl⟩)
  refine hN _ _ (fun _ => rfl) ?_
  clear hN N
  repeat (apply wpOrd_class; ((· first | (rw [List.getElem?_toArray, List.getElem?_cons_zero]; done) | (simp only [List.getElem?_toArray, List.getElem?_cons_succ, List.getElem?_cons_zero]; exact rfl))); (· exact rfl); intro K hK; apply Exists.intro; refine And.intro (fun X' hX' => ?_) ?_; (· go_simp; (try go_bits); first | done | exact rfl | exact ⟨rfl, rfl⟩); go_simp; refine hK _ _ ?_; clear hK K)
  refine wpOrd_done ?_
  go_wp2_with fail
  go_ret
  exact ⟨rfl, Below.drew (Below.refl _ _)⟩
end Go.Proofs.YthmchbdhikakhaaDoor
/- A block as 64 words. -/
namespace Go.Cu
open Go Go.RowKit
/-- Words as cells. -/
def w32 (l : List UInt32) : Array Value := (l.map fun x => Value.int .u32 x.toNat).toArray
theorem w32_size (l : List UInt32) : (w32 l).size = l.length := by simp [w32]
theorem w32_get (l : List UInt32) {i : Nat} (h : i < l.length) : (w32 l)[i]? = some (.int .u32 ((l.getD i 0).toNat : Int)) := by simp [w32, h]
theorem w32_set (l : List UInt32) (i : Nat) (x : UInt32) : (w32 l).setIfInBounds i (.int .u32 (x.toNat : Int)) = w32 (l.set i x) := by
  apply Array.ext_getElem?
  intro j
  simp only [w32, Array.getElem?_setIfInBounds, List.getElem?_toArray, List.getElem?_map, List.getElem?_set, List.size_toArray, List.length_map]
  by_cases h : i = j
  · subst h
    by_cases h2 : i < l.length <;> simp [h2]
  · simp [h]
theorem w32_one (l : List UInt32) : ∀ u ∈ (w32 l).toList, u.oneCell' = true := by
  intro u hu
  simp only [w32, List.mem_map] at hu
  obtain ⟨b, _, rfl⟩ := hu
  rfl
def shl8 (x : UInt32) (b : UInt8) : UInt32 := UInt32.ofNat (x.toNat * 256 % 4294967296 ||| b.toNat)
/-- The words of a block, so many bytes in. -/
def wordsTo (bs : List UInt8) : Nat → List UInt32
  | 0 => List.replicate 64 0
  | i + 1 => (wordsTo bs i).set (i / 4) (shl8 ((wordsTo bs i).getD (i / 4) 0) (bs.getD i 0))
def mixW (l : List UInt32) (i : Nat) : UInt32 := l.getD (i - 16) 0 + smallW (l.getD (i - 15) 0) 7 18 3 + l.getD (i - 7) 0 + smallW (l.getD (i - 2) 0) 17 19 10
/-- .. and so many of the others. -/
def spreadTo (bs : List UInt8) : Nat → List UInt32
  | 0 => wordsTo bs 64
  | i + 1 => (spreadTo bs i).set (16 + i) (mixW (spreadTo bs i) (16 + i))
def spreadW (bs : List UInt8) : List UInt32 := spreadTo bs 48
theorem wordsTo_len (bs : List UInt8) : ∀ i, (wordsTo bs i).length = 64
  | 0 => by simp [wordsTo]
  | i + 1 => by rw [wordsTo, List.length_set, wordsTo_len bs i]
theorem spreadTo_len (bs : List UInt8) : ∀ i, (spreadTo bs i).length = 64
  | 0 => wordsTo_len bs 64
  | i + 1 => by rw [spreadTo, List.length_set, spreadTo_len bs i]
theorem shl8_nat (x : UInt32) (b : UInt8) : bits .or .u32 ((x.toNat : Int) * 256 % 4294967296) (b.toNat : Int) = ((shl8 x b).toNat : Int) := by
  have hb := b.toNat_lt
  have e1 : (x.toNat : Int) * 256 % 4294967296 = ((x.toNat * 256 % 4294967296 : Nat) : Int) := by simp
  rw [e1, bits_or_u32 (Nat.mod_lt _ (by decide)) (by omega)]
  unfold shl8
  have h3 : x.toNat * 256 % 4294967296 ||| b.toNat < 2 ^ 32 := Nat.or_lt_two_pow (by omega) (by omega)
  rw [UInt32.toNat_ofNat', Nat.mod_eq_of_lt h3]
theorem add_u32 (a b : UInt32) : ((a.toNat : Int) + (b.toNat : Int)) % 4294967296 = ((a + b).toNat : Int) := by
  rw [UInt32.toNat_add]
  omega
end Go.Cu
namespace Go.Proofs.YthmchbdhikakhaaDoor
open Go.RowKit Go.Cu
set_option maxRecDepth 20000 in
theorem zero64w (W : World) : (zeroValue 86).run Tryd.prog W = .ok (.agg (w32 (List.replicate 64 0))) W := by kernel_rfl
theorem size64w : (Tryd.prog.info? 86).map (·.size) = some 64 := by kernel_rfl
@[go_sem ↓] theorem ldktW64 (a : Act) (dst : Option Tmp) (x : Operand) (ty : TypeId) (pos : String) (after : Array Edge) (guard : Option (Nat × Bool)) :
      execOp a.eval { dst, op := .load 86 x, type := ty, pos, after, guard } = loadK 86 (a.eval x) := rfl
theorem wblk_cell {W0 W : World} {L : List Atm} {g t i : Nat} {l : List UInt32} (h : St W0 (Blk g (w32 l) t :: L) W) (hi : i < l.length) : W.cell? ⟨g, i, none⟩ = some (.int .u32 ((l.getD i 0).toNat : Int)) := (cell_of_row W g i _ _ _ h.blk).trans (w32_get l hi)
set_option maxRecDepth 20000 in
set_option maxHeartbeats 4000000 in
theorem spread_ok {A : Option Addr} {n c : Nat} {bs : List UInt8} {w : World} (hb : BytesIn w A bs) (hl : 64 ≤ bs.length) (hn : bs.length = n) (hc : n ≤ c) (hc2 : c ≤ maxLen) :
    Calls Tryd.prog 34 #[.slice A n c] w fun r w' => r = .returned (.agg (w32 (spreadW bs))) ∧ Below w.heap.size w w' := by
  obtain ⟨b0, hb0⟩ : ∃ b, bs[0]? = some b := ⟨_, List.getElem?_eq_getElem (by omega)⟩
  obtain ⟨gB, oB, rfl, _, _⟩ := hb 0 b0 hb0
  have HB := hid (show ∀ X i, Below w.heap.size w X → i < 64 → X.cell? ⟨gB, oB + i, none⟩ = some (.int .u8 (((bs.getD i 0).toNat : Nat) : Int)) from fun X i hX hi => by
    have hg := List.getElem?_eq_getElem (l := bs) (i := i) (by omega)
    obtain ⟨g, o, e, hg2, hc⟩ := hb i _ hg
    cases e
    rw [(hX.cell (p := ⟨gB, oB + i, none⟩) hg2).trans hc, List.getD_eq_getElem?_getD, hg]
    rfl)
  have h64 : (64 : Int) ≤ (n : Int) := by omega
  have h64c : (64 : Int) ≤ (c : Int) := by omega
  have h64n : 64 ≤ c := by omega
  unfold maxLen at hc2
  clear hb hb0
  have tok : True := trivial
  go_enter Tryd.func34, Tryd.ntmps34
  go_wp2_with (first | (have _t := tok; refine wpList_alloc 86 rfl rfl (.agg (w32 (List.replicate 64 0))) zero64w ?_; intro g2 W1 h1 hl1 hg1 hW1; have H1 := hid ((St.start w).newBlk hW1 hg1 h1); clear h1 hl1 hg1 hW1 tok) | (refine wpList_alloc 86 rfl rfl (.agg (w32 (List.replicate 64 0))) zero64w ?_; intro g3 W2 h1 hl1 hg1 hW1; have H2 := hid (H1.out.newBlk hW1 hg1 h1); clear h1 hl1 hg1 hW1))
  go_loopw [4, 9] (fun _ v X => ∃ i : Nat, i ≤ 64 ∧ v = .int .i64 i ∧ Hid (St w [Blk g3 (w32 (wordsTo bs i)) 86, Blk g2 (w32 (List.replicate 64 0)) 86] X)) (fun _ v _ => 64 - (intOf v).toNat)
  case atStart => exact ⟨0, Nat.zero_le _, rfl, H2⟩
  case round =>
    clear H1 H2
    obtain ⟨i, hi, rfl, HS⟩ := hrel
    by_cases hlt : i < 64
    · have e1 : (i : Int) < 64 := by omega
      have e0 : (0 : Int) ≤ (i : Int) := by omega
      obtain ⟨q, hq⟩ : ∃ q, q = i / 4 := ⟨_, rfl⟩
      have em : (i : Int) / 4 = (q : Int) := by omega
      have hq1 : (q : Int) < 64 := by omega
      have hq2 : q < 64 := by omega
      have hin : (i : Int) < (n : Int) := by omega
      obtain ⟨x, hx⟩ : ∃ x, x = (wordsTo bs i).getD q 0 := ⟨_, rfl⟩
      obtain ⟨b, hb⟩ : ∃ b, b = bs.getD i 0 := ⟨_, rfl⟩
      obtain ⟨y, hy⟩ : ∃ y, y = shl8 x b := ⟨_, rfl⟩
      have HY := hid (show (wordsTo bs i).set q y = wordsTo bs (i + 1) by rw [hy, hx, hb, hq]; rfl)
      have SH : bits .or .u32 ((x.toNat : Int) * 256 % 4294967296) (b.toNat : Int) = (y.toNat : Int) := by rw [hy]; exact shl8_nat x b
      have hbm : (b.toNat : Int) % 4294967296 = (b.toNat : Int) := by have := b.toNat_lt; omega
      have HC := hid (show ∀ X, St w [Blk g3 (w32 (wordsTo bs i)) 86, Blk g2 (w32 (List.replicate 64 0)) 86] X → X.cell? ⟨g3, q, none⟩ = some (.int .u32 (x.toNat : Int)) ∧ X.cell? ⟨gB, oB + i, none⟩ = some (.int .u8 (b.toNat : Int)) from fun X hX => ⟨by rw [hx]; exact wblk_cell hX (by rw [wordsTo_len]; exact hq2), by rw [hb]; exact HB.out X i hX.below hlt⟩)
      clear hx hb hy hq
      go_wp2_with fail
      refine wp_region_ord [14] [(0, 1), (1, 1), (2, 1), (3, 1), (4, 1), (5, 1), (6, 1), (7, 1), (8, 1), (9, 1), (10, 1), (11, 1), (12, 1), (13, 1), (14, 2)] (fun X => St w [Blk g3 (w32 (wordsTo bs i)) 86, Blk g2 (w32 (List.replicate 64 0)) 86] X) (by kernel_rfl) (by kernel_rfl) (fun d _ c _ _ h => by cases d <;> exact h) (HS.out.turn (Below.drew (Below.refl _ _))) (fun X hXe hX => ?_)
      clear hXe HS
      repeat (apply wpOrd_class; ((· first | (rw [List.getElem?_toArray, List.getElem?_cons_zero]; done) | (simp only [List.getElem?_toArray, List.getElem?_cons_succ, List.getElem?_cons_zero]; exact rfl))); (· exact rfl); intro K hK; apply Exists.intro; refine And.intro (fun X' hX' => ?_) ?_; (· obtain ⟨hq1, hq2⟩ := HC.out _ hX'; clear hX'; go_simp; (try go_bits); first | done | exact rfl | exact ⟨rfl, rfl⟩); go_simp; refine hK _ _ ?_; clear hK K)
      obtain ⟨c3, _⟩ := HC.out X hX
      have f3 := frozen_of_row X g3 q _ _ hX.blk
      (apply wpOrd_comes; ((· first | (rw [List.getElem?_toArray, List.getElem?_cons_zero]; done) | (simp only [List.getElem?_toArray, List.getElem?_cons_succ, List.getElem?_cons_zero]; exact rfl))); intro N hN)
      go_wp2_with fail
      have H3 := hid (hX.setCell q (.int .u32 (y.toNat : Int)))
      rw [w32_set, HY.out] at H3
      clear hX c3 f3
      refine hN _ _ (fun h => by cases h) ?_
      clear hN N
      refine wpOrd_done ?_
      go_wp2_with fail
      go_roundw
      case rel => exact ⟨i + 1, by omega, by go_num, H3⟩
      case measure => simp [intOf]; omega
    · have e1 : ¬ (i : Int) < 64 := by omega
      obtain rfl : i = 64 := by omega
      go_wp2_with fail
      go_loopw [5] (fun v X => ∃ i : Nat, i ≤ 48 ∧ v = .int .i64 (16 + i : Nat) ∧ Hid (St w [Blk g3 (w32 (spreadTo bs i)) 86, Blk g2 (w32 (List.replicate 64 0)) 86] X)) (fun v _ => 64 - (intOf v).toNat)
      case atStart => exact ⟨0, Nat.zero_le _, rfl, HS⟩
      case round =>
        clear HS
        obtain ⟨i, hi, rfl, HS⟩ := hrel
        obtain ⟨k, hk⟩ : ∃ k, k = 16 + i := ⟨_, rfl⟩
        rw [← hk]
        by_cases hlt : i < 48
        · have e1 : (k : Int) < 64 := by omega
          have e0 : (0 : Int) ≤ (k : Int) := by omega
          obtain ⟨p0, hp0⟩ : ∃ p, p = k - 16 := ⟨_, rfl⟩
          obtain ⟨p1, hp1⟩ : ∃ p, p = k - 15 := ⟨_, rfl⟩
          obtain ⟨p2, hp2⟩ : ∃ p, p = k - 7 := ⟨_, rfl⟩
          obtain ⟨p3, hp3⟩ : ∃ p, p = k - 2 := ⟨_, rfl⟩
          have em0 : (k : Int) - 16 = (p0 : Int) := by omega
          have em1 : (k : Int) - 15 = (p1 : Int) := by omega
          have em2 : (k : Int) - 7 = (p2 : Int) := by omega
          have em3 : (k : Int) - 2 = (p3 : Int) := by omega
          have hl0 : (p0 : Int) < 64 := by omega
          have hl1 : (p1 : Int) < 64 := by omega
          have hl2 : (p2 : Int) < 64 := by omega
          have hl3 : (p3 : Int) < 64 := by omega
          obtain ⟨x0, hx0⟩ : ∃ x, x = (spreadTo bs i).getD p0 0 := ⟨_, rfl⟩
          obtain ⟨x1, hx1⟩ : ∃ x, x = (spreadTo bs i).getD p1 0 := ⟨_, rfl⟩
          obtain ⟨x2, hx2⟩ : ∃ x, x = (spreadTo bs i).getD p2 0 := ⟨_, rfl⟩
          obtain ⟨x3, hx3⟩ : ∃ x, x = (spreadTo bs i).getD p3 0 := ⟨_, rfl⟩
          obtain ⟨s1, hs1⟩ : ∃ x, x = smallW x1 7 18 3 := ⟨_, rfl⟩
          obtain ⟨s3, hs3⟩ : ∃ x, x = smallW x3 17 19 10 := ⟨_, rfl⟩
          obtain ⟨t1, ht1⟩ : ∃ x, x = x0 + s1 := ⟨_, rfl⟩
          obtain ⟨t2, ht2⟩ : ∃ x, x = t1 + x2 := ⟨_, rfl⟩
          obtain ⟨t3, ht3⟩ : ∃ x, x = t2 + s3 := ⟨_, rfl⟩
          have HY := hid (show (spreadTo bs i).set k t3 = spreadTo bs (i + 1) by rw [spreadTo, ht3, ht2, ht1, hs1, hs3, hx0, hx1, hx2, hx3, hp0, hp1, hp2, hp3, hk]; rfl)
          have A1 : ((x0.toNat : Int) + (s1.toNat : Int)) % 4294967296 = (t1.toNat : Int) := by rw [ht1]; exact add_u32 _ _
          have A2 : ((t1.toNat : Int) + (x2.toNat : Int)) % 4294967296 = (t2.toNat : Int) := by rw [ht2]; exact add_u32 _ _
          have A3 : ((t2.toNat : Int) + (s3.toNat : Int)) % 4294967296 = (t3.toNat : Int) := by rw [ht3]; exact add_u32 _ _
          have HK1 := hid (show ∀ X, Calls Tryd.prog 36 #[.int .u32 x1.toNat, .int .i64 7, .int .i64 18, .int .i64 3] X fun v w' => v = .returned (.int .u32 s1.toNat) ∧ Below X.heap.size X w' from fun X => by rw [hs1]; exact small_ok x1 (p := 7) (q := 18) (r := 3) (by decide) (by decide) (by decide) rfl rfl rfl X)
          have HK3 := hid (show ∀ X, Calls Tryd.prog 36 #[.int .u32 x3.toNat, .int .i64 17, .int .i64 19, .int .i64 10] X fun v w' => v = .returned (.int .u32 s3.toNat) ∧ Below X.heap.size X w' from fun X => by rw [hs3]; exact small_ok x3 (p := 17) (q := 19) (r := 10) (by decide) (by decide) (by decide) rfl rfl rfl X)
          have HC := hid (show ∀ X, St w [Blk g3 (w32 (spreadTo bs i)) 86, Blk g2 (w32 (List.replicate 64 0)) 86] X → X.cell? ⟨g3, p0, none⟩ = some (.int .u32 (x0.toNat : Int)) ∧ X.cell? ⟨g3, p1, none⟩ = some (.int .u32 (x1.toNat : Int)) ∧ X.cell? ⟨g3, p2, none⟩ = some (.int .u32 (x2.toNat : Int)) ∧ X.cell? ⟨g3, p3, none⟩ = some (.int .u32 (x3.toNat : Int)) from fun X hX =>
            ⟨by rw [hx0]; exact wblk_cell hX (by rw [spreadTo_len]; omega), by rw [hx1]; exact wblk_cell hX (by rw [spreadTo_len]; omega), by rw [hx2]; exact wblk_cell hX (by rw [spreadTo_len]; omega), by rw [hx3]; exact wblk_cell hX (by rw [spreadTo_len]; omega)⟩)
          have HK := hid hk
          clear hx0 hx1 hx2 hx3 hs1 hs3 ht1 ht2 ht3 hp0 hp1 hp2 hp3 hk
          go_wp2_with fail
          refine wp_region_ord [23] [(0, 1), (1, 1), (2, 1), (3, 1), (4, 1), (5, 1), (6, 1), (7, 1), (8, 1), (11, 1), (12, 1), (13, 1), (14, 1), (16, 1), (17, 1), (18, 1), (19, 1), (9, 2), (10, 1), (15, 1), (20, 2), (21, 1), (22, 1), (23, 2)] (fun X => St w [Blk g3 (w32 (spreadTo bs i)) 86, Blk g2 (w32 (List.replicate 64 0)) 86] X) (by kernel_rfl) (by kernel_rfl) (fun d _ c _ _ h => by cases d <;> exact h) (HS.out.turn (Below.drew (Below.refl _ _))) (fun X hXe hX => ?_)
          clear hXe HS
          repeat (apply wpOrd_class; ((· first | (rw [List.getElem?_toArray, List.getElem?_cons_zero]; done) | (simp only [List.getElem?_toArray, List.getElem?_cons_succ, List.getElem?_cons_zero]; exact rfl))); (· exact rfl); intro K hK; apply Exists.intro; refine And.intro (fun X' hX' => ?_) ?_; (· obtain ⟨hq1, hq2, hq3, hq4⟩ := HC.out _ hX'; clear hX'; go_simp; (try go_bits); first | done | exact rfl | exact ⟨rfl, rfl⟩); go_simp; refine hK _ _ ?_; clear hK K)
          (apply wpOrd_comes; ((· first | (rw [List.getElem?_toArray, List.getElem?_cons_zero]; done) | (simp only [List.getElem?_toArray, List.getElem?_cons_succ, List.getElem?_cons_zero]; exact rfl))); intro N hN)
          go_wp2_with (go_at_call 36; (with_reducible refine (HK1.out _).mono ?_); rintro v X2 ⟨rfl, hb⟩; have hX2 := hX.turn hb; clear hb)
          refine hN _ _ (fun _ => hX2) ?_
          clear hN N
          repeat (apply wpOrd_class; ((· first | (rw [List.getElem?_toArray, List.getElem?_cons_zero]; done) | (simp only [List.getElem?_toArray, List.getElem?_cons_succ, List.getElem?_cons_zero]; exact rfl))); (· exact rfl); intro K hK; apply Exists.intro; refine And.intro (fun X' hX' => ?_) ?_; (· obtain ⟨hq1, hq2, hq3, hq4⟩ := HC.out _ hX'; clear hX'; go_simp; (try go_bits); first | done | exact rfl | exact ⟨rfl, rfl⟩); go_simp; refine hK _ _ ?_; clear hK K)
          (apply wpOrd_comes; ((· first | (rw [List.getElem?_toArray, List.getElem?_cons_zero]; done) | (simp only [List.getElem?_toArray, List.getElem?_cons_succ, List.getElem?_cons_zero]; exact rfl))); intro N hN)
          go_wp2_with (go_at_call 36; (with_reducible refine (HK3.out _).mono ?_); rintro v X3 ⟨rfl, hb⟩; have hX3 := hX2.turn hb; clear hb)
          refine hN _ _ (fun _ => hX3) ?_
          clear hN N hX hX2
          repeat (apply wpOrd_class; ((· first | (rw [List.getElem?_toArray, List.getElem?_cons_zero]; done) | (simp only [List.getElem?_toArray, List.getElem?_cons_succ, List.getElem?_cons_zero]; exact rfl))); (· exact rfl); intro K hK; apply Exists.intro; refine And.intro (fun X' hX' => ?_) ?_; (· obtain ⟨hq1, hq2, hq3, hq4⟩ := HC.out _ hX'; clear hX'; go_simp; (try go_bits); first | done | exact rfl | exact ⟨rfl, rfl⟩); go_simp; refine hK _ _ ?_; clear hK K)
          have c3 := wblk_cell hX3 (i := k) (by rw [spreadTo_len]; omega)
          have f3 := frozen_of_row X3 g3 k _ _ hX3.blk
          (apply wpOrd_comes; ((· first | (rw [List.getElem?_toArray, List.getElem?_cons_zero]; done) | (simp only [List.getElem?_toArray, List.getElem?_cons_succ, List.getElem?_cons_zero]; exact rfl))); intro N hN)
          go_wp2_with fail
          have H3 := hid (hX3.setCell k (.int .u32 (t3.toNat : Int)))
          rw [w32_set, HY.out] at H3
          clear hX3 c3 f3
          refine hN _ _ (fun h => by cases h) ?_
          clear hN N
          refine wpOrd_done ?_
          go_wp2_with fail
          go_roundw
          case rel => exact ⟨i + 1, by omega, by rw [HK.out]; go_num, H3⟩
          case measure => simp [intOf]; omega
        · have e1 : ¬ (k : Int) < 64 := by omega
          obtain rfl : i = 48 := by omega
          have HZ := hid ((w32_size (spreadTo bs 48)).trans (spreadTo_len bs 48))
          have HZ0 := hid (show (w32 (List.replicate 64 0)).size = 64 by rw [w32_size, List.length_replicate])
          have LB : (loadK 86 (.pointer (some ⟨g3, 0, none⟩))).run Tryd.prog wr = .ok (.value (.agg (w32 (spreadTo bs 48)))) wr := run_loadK_box HS.out.blk Tryd.underlying86 rfl size64w HZ.out
          go_wp2_with (refine wpList_store_box 86 _ _ rfl g2 rfl rfl (w32 (spreadTo bs 48)) rfl 64 size64w HZ.out (w32_one _) 86 _ HS.out.at2.blk HZ0.out ?_; intro W5 hB5 hT5 hs5; have H5 := hid (HS.out.at2.put hB5 hT5))
          exact bodyPost_ret (results_cell rfl _ _ _ g2 86 (w32 _) (0, 0) rfl hB5 Tryd.underlying86 (by rw [HZ.out]; exact size64w)) rfl ⟨rfl, H5.out.below⟩
end Go.Proofs.YthmchbdhikakhaaDoor
/- A block worked into the words. -/
namespace Go.Cu
open Go Go.RowKit
def startL : List UInt32 := [0x6a09e667, 0xbb67ae85, 0x3c6ef372, 0xa54ff53a, 0x510e527f, 0x9b05688c, 0x1f83d9ab, 0x5be0cd19]
def roundsL : List UInt32 := [0x428a2f98, 0x71374491, 0xb5c0fbcf, 0xe9b5dba5, 0x3956c25b, 0x59f111f1, 0x923f82a4, 0xab1c5ed5, 0xd807aa98, 0x12835b01, 0x243185be, 0x550c7dc3, 0x72be5d74, 0x80deb1fe, 0x9bdc06a7, 0xc19bf174, 0xe49b69c1, 0xefbe4786, 0x0fc19dc6, 0x240ca1cc, 0x2de92c6f, 0x4a7484aa, 0x5cb0a9dc, 0x76f988da, 0x983e5152, 0xa831c66d, 0xb00327c8, 0xbf597fc7, 0xc6e00bf3, 0xd5a79147, 0x06ca6351, 0x14292967, 0x27b70a85, 0x2e1b2138, 0x4d2c6dfc, 0x53380d13, 0x650a7354, 0x766a0abb, 0x81c2c92e, 0x92722c85, 0xa2bfe8a1, 0xa81a664b, 0xc24b8b70, 0xc76c51a3, 0xd192e819, 0xd6990624, 0xf40e3585, 0x106aa070, 0x19a4c116, 0x1e376c08, 0x2748774c, 0x34b0bcb5, 0x391c0cb3, 0x4ed8aa4a, 0x5b9cca4f, 0x682e6ff3, 0x748f82ee, 0x78a5636f, 0x84c87814, 0x8cc70208, 0x90befffa, 0xa4506ceb, 0xbef9a3f7, 0xc67178f2]
def chW (a b c : UInt32) : UInt32 := (a &&& b) ^^^ ((0xffffffff ^^^ a) &&& c)
def majW (a b c : UInt32) : UInt32 := (a &&& b) ^^^ (a &&& c) ^^^ (b &&& c)
def tW (v : List UInt32) (k w : UInt32) : UInt32 := v.getD 7 0 + bigW (v.getD 4 0) 6 11 25 + chW (v.getD 4 0) (v.getD 5 0) (v.getD 6 0) + k + w
def uW (v : List UInt32) : UInt32 := bigW (v.getD 0 0) 2 13 22 + majW (v.getD 0 0) (v.getD 1 0) (v.getD 2 0)
def stepW (v : List UInt32) (k w : UInt32) : List UInt32 := [tW v k w + uW v, v.getD 0 0, v.getD 1 0, v.getD 2 0, v.getD 3 0 + tW v k w, v.getD 4 0, v.getD 5 0, v.getD 6 0]
/-- So many rounds. -/
def roundsTo (h ws : List UInt32) : Nat → List UInt32
  | 0 => h
  | i + 1 => stepW (roundsTo h ws i) (roundsL.getD i 0) (ws.getD i 0)
/-- The words added, so many of them. -/
def addTo (h v : List UInt32) : Nat → List UInt32
  | 0 => h
  | i + 1 => (addTo h v i).set i ((addTo h v i).getD i 0 + v.getD i 0)
def pressW (h : List UInt32) (bs : List UInt8) : List UInt32 := addTo h (roundsTo h (spreadW bs) 64) 8
theorem roundsTo_len {h ws : List UInt32} (hh : h.length = 8) : ∀ i, (roundsTo h ws i).length = 8
  | 0 => hh
  | _ + 1 => rfl
theorem addTo_len {h v : List UInt32} (hh : h.length = 8) : ∀ i, (addTo h v i).length = 8
  | 0 => hh
  | i + 1 => by rw [addTo, List.length_set, addTo_len hh i]
theorem pressW_len {h : List UInt32} (hh : h.length = 8) (bs : List UInt8) : (pressW h bs).length = 8 := addTo_len hh 8
theorem roundsL_len : roundsL.length = 64 := by decide
theorem startL_len : startL.length = 8 := by decide
/-- The program's two tables. -/
def Glob (W : World) : Prop := ∃ t0 f0 t1 f1, W.heap[0]? = some (.cells (w32 startL) t0 f0) ∧ W.heap[1]? = some (.cells (w32 roundsL) t1 f1)
theorem Glob.below {W X : World} {n : Nat} (h : Glob W) (hb : Below n W X) (hn : 2 ≤ n) : Glob X := by
  obtain ⟨t0, f0, t1, f1, h0, h1⟩ := h
  exact ⟨t0, f0, t1, f1, (hb.block 0 (by omega)).trans h0, (hb.block 1 (by omega)).trans h1⟩
theorem Glob.two {W : World} (h : Glob W) : 2 ≤ W.heap.size := by
  obtain ⟨_, _, _, _, _, h1⟩ := h
  have := heap_lt h1
  omega
theorem Glob.round {W : World} (h : Glob W) {i : Nat} (hi : i < 64) : W.cell? ⟨1, i, none⟩ = some (.int .u32 ((roundsL.getD i 0).toNat : Int)) := by
  obtain ⟨_, _, _, _, _, h1⟩ := h
  exact (cell_of_row W 1 i _ _ _ h1).trans (w32_get _ (by rw [roundsL_len]; exact hi))
theorem list8 {l : List UInt32} (h : l.length = 8) : l = [l.getD 0 0, l.getD 1 0, l.getD 2 0, l.getD 3 0, l.getD 4 0, l.getD 5 0, l.getD 6 0, l.getD 7 0] := by
  match l, h with
  | [a, b, c, d, e, f, g, i], _ => rfl
end Go.Cu
namespace Go.Proofs.YthmchbdhikakhaaDoor
open Go.RowKit Go.Cu
set_option maxRecDepth 20000 in
theorem zero8w (W : World) : (zeroValue 81).run Tryd.prog W = .ok (.agg (w32 (List.replicate 8 0))) W := by kernel_rfl
theorem size8w : (Tryd.prog.info? 81).map (·.size) = some 8 := by kernel_rfl
@[go_sem ↓] theorem ldktW8 (a : Act) (dst : Option Tmp) (x : Operand) (ty : TypeId) (pos : String) (after : Array Edge) (guard : Option (Nat × Bool)) :
      execOp a.eval { dst, op := .load 81 x, type := ty, pos, after, guard } = loadK 81 (a.eval x) := rfl
@[go_sem ↓] theorem bdktW8 (a : Act) (dst : Option Tmp) (ps : Array (Nat × Operand)) (ty : TypeId) (pos : String) (after : Array Edge) (guard : Option (Nat × Bool)) :
    execOp a.eval { dst, op := .build 81 ps, type := ty, pos, after, guard } = buildK 81 (ps.map fun (i, x) => (i, a.eval x)) := rfl
theorem build8w (a b c d e f g i : UInt32) (W : World) : (Instr.build 81 #[(0, .int .u32 a.toNat), (1, .int .u32 b.toNat), (2, .int .u32 c.toNat), (3, .int .u32 d.toNat), (4, .int .u32 e.toNat), (5, .int .u32 f.toNat), (6, .int .u32 g.toNat), (7, .int .u32 i.toNat)]).run Tryd.prog W = .ok (.agg (w32 [a, b, c, d, e, f, g, i])) W := by kernel_rfl
set_option maxRecDepth 20000 in
set_option maxHeartbeats 8000000 in
theorem press_ok {h : List UInt32} {A : Option Addr} {n c : Nat} {bs : List UInt8} {w : World} (hh : h.length = 8) (hG : Glob w) (hb : BytesIn w A bs) (hl : 64 ≤ bs.length) (hn : bs.length = n) (hc : n ≤ c) (hc2 : c ≤ maxLen) :
    Calls Tryd.prog 33 #[.agg (w32 h), .slice A n c] w fun r w' => r = .returned (.agg (w32 (pressW h bs))) ∧ Below w.heap.size w w' := by
  have HG := hid (fun X (hX : Below w.heap.size w X) => hG.below hX hG.two)
  have HSP := hid (fun X (hX : Below w.heap.size w X) => spread_ok (w := X) (hb.below hX) hl hn hc hc2)
  have HH8 := hid ((w32_size h).trans hh)
  have HHL := hid hh
  obtain ⟨ws, hws⟩ : ∃ ws, ws = spreadW bs := ⟨_, rfl⟩
  have HWL := hid (show ws.length = 64 by rw [hws]; exact spreadTo_len bs 48)
  have HW8 := hid ((w32_size ws).trans HWL.out)
  have HZ64 := hid (show (w32 (List.replicate 64 0)).size = 64 by rw [w32_size, List.length_replicate])
  have HZ8 := hid (show (w32 (List.replicate 8 0)).size = 8 by rw [w32_size, List.length_replicate])
  unfold pressW
  rw [← hws] at HSP ⊢
  clear hG hb hl hn hc hc2 hh hws
  have tok : True := trivial
  go_enter Tryd.func33, Tryd.ntmps33
  go_wp2_with (first | (refine wpList_box rfl 81 _ rfl (.agg (w32 h)) rfl ?_; intro gh W1 h1 hl1 hg1 hW1; have H1 := hid ((St.start w).newBlk hW1 hg1 h1); clear h1 hl1 hg1 hW1) | (have _t := tok; refine wpList_alloc 81 rfl rfl (.agg (w32 (List.replicate 8 0))) zero8w ?_; intro gr W2 h1 hl1 hg1 hW1; have H2 := hid (H1.out.newBlk hW1 hg1 h1); clear h1 hl1 hg1 hW1 tok) | (go_at_call 34; (with_reducible refine (HSP.out _ H2.out.below).mono ?_); rintro r W3 ⟨rfl, hb3⟩; have H3 := hid (H2.out.turn hb3); clear hb3) | (refine wpList_alloc 86 rfl rfl (.agg (w32 (List.replicate 64 0))) zero64w ?_; intro gw W4 h1 hl1 hg1 hW1; have H4 := hid (H3.out.newBlk hW1 hg1 h1); clear h1 hl1 hg1 hW1) | (refine wpList_store_box 86 _ _ rfl gw rfl rfl (w32 ws) rfl 64 size64w HW8.out (w32_one _) 86 _ H4.out.blk HZ64.out ?_; intro W5 hB hT hs; have H5 := hid (H4.out.put hB hT); have LH : (loadK 81 (.pointer (some ⟨gh, 0, none⟩))).run Tryd.prog W5 = .ok (.value (.agg (w32 h))) W5 := run_loadK_box H5.out.at3.blk Tryd.underlying81 rfl size8w HH8.out; clear hB hT hs) | (refine wpList_alloc 81 rfl rfl (.agg (w32 (List.replicate 8 0))) zero8w ?_; intro gv W6 h1 hl1 hg1 hW1; have H6 := hid (H5.out.newBlk hW1 hg1 h1); clear h1 hl1 hg1 hW1 LH) | (refine wpList_store_box 81 _ _ rfl gv rfl rfl (w32 h) rfl 8 size8w HH8.out (w32_one _) 81 _ H6.out.blk HZ8.out ?_; intro W7 hB hT hs; have H7 := hid (H6.out.put hB hT); clear hB hT hs))
  go_loopw [7, 8, 9, 14] (fun _ _ _ k X => ∃ i : Nat, i ≤ 64 ∧ k = .int .i64 i ∧ Hid (St w [Blk gv (w32 (roundsTo h ws i)) 81, Blk gw (w32 ws) 86, Blk gr (w32 (List.replicate 8 0)) 81, Blk gh (w32 h) 81] X)) (fun _ _ _ k _ => 64 - (intOf k).toNat)
  case atStart => exact ⟨0, Nat.zero_le _, rfl, H7⟩
  case round =>
    clear H1 H2 H3 H4 H5 H6 H7
    obtain ⟨i, hi, rfl, HS⟩ := hrel
    by_cases hlt : i < 64
    · have e1 : (i : Int) < 64 := by omega
      have e0 : (0 : Int) ≤ (i : Int) := by omega
      obtain ⟨V, hV⟩ : ∃ V, V = roundsTo h ws i := ⟨_, rfl⟩
      have hV8 : V.length = 8 := by rw [hV]; exact roundsTo_len HHL.out i
      rw [← hV] at HS
      have HV := hid hV
      obtain ⟨v0, hv0⟩ : ∃ x, x = V.getD 0 0 := ⟨_, rfl⟩
      obtain ⟨v1, hv1⟩ : ∃ x, x = V.getD 1 0 := ⟨_, rfl⟩
      obtain ⟨v2, hv2⟩ : ∃ x, x = V.getD 2 0 := ⟨_, rfl⟩
      obtain ⟨v3, hv3⟩ : ∃ x, x = V.getD 3 0 := ⟨_, rfl⟩
      obtain ⟨v4, hv4⟩ : ∃ x, x = V.getD 4 0 := ⟨_, rfl⟩
      obtain ⟨v5, hv5⟩ : ∃ x, x = V.getD 5 0 := ⟨_, rfl⟩
      obtain ⟨v6, hv6⟩ : ∃ x, x = V.getD 6 0 := ⟨_, rfl⟩
      obtain ⟨v7, hv7⟩ : ∃ x, x = V.getD 7 0 := ⟨_, rfl⟩
      obtain ⟨k, hk⟩ : ∃ x, x = roundsL.getD i 0 := ⟨_, rfl⟩
      obtain ⟨x, hx⟩ : ∃ x, x = ws.getD i 0 := ⟨_, rfl⟩
      obtain ⟨b4, hb4⟩ : ∃ x, x = bigW v4 6 11 25 := ⟨_, rfl⟩
      obtain ⟨a1, ha1⟩ : ∃ x, x = v7 + b4 := ⟨_, rfl⟩
      obtain ⟨a2, ha2⟩ : ∃ x, x = v4 &&& v5 := ⟨_, rfl⟩
      obtain ⟨a3, ha3⟩ : ∃ x, x = 0xffffffff ^^^ v4 := ⟨_, rfl⟩
      obtain ⟨a4, ha4⟩ : ∃ x, x = a3 &&& v6 := ⟨_, rfl⟩
      obtain ⟨a5, ha5⟩ : ∃ x, x = a2 ^^^ a4 := ⟨_, rfl⟩
      obtain ⟨a6, ha6⟩ : ∃ x, x = a1 + a5 := ⟨_, rfl⟩
      obtain ⟨a7, ha7⟩ : ∃ x, x = a6 + k := ⟨_, rfl⟩
      obtain ⟨t, ht⟩ : ∃ x', x' = a7 + x := ⟨_, rfl⟩
      have E1 : ((v7.toNat : Int) + (b4.toNat : Int)) % 4294967296 = (a1.toNat : Int) := by rw [ha1]; exact add_u32 _ _
      have E2 : bits .and .u32 (v4.toNat : Int) (v5.toNat : Int) = (a2.toNat : Int) := by rw [ha2]; exact bits_and_u32 _ _
      have E3 : bits .xor .u32 (if IntKind.u32.signed = true then -1 else IntKind.u32.max) (v4.toNat : Int) = (a3.toNat : Int) := by rw [ha3]; exact bits_xor_u32 0xffffffff v4
      have E4 : bits .and .u32 (a3.toNat : Int) (v6.toNat : Int) = (a4.toNat : Int) := by rw [ha4]; exact bits_and_u32 _ _
      have E5 : bits .xor .u32 (a2.toNat : Int) (a4.toNat : Int) = (a5.toNat : Int) := by rw [ha5]; exact bits_xor_u32 _ _
      have E6 : ((a1.toNat : Int) + (a5.toNat : Int)) % 4294967296 = (a6.toNat : Int) := by rw [ha6]; exact add_u32 _ _
      have E7 : ((a6.toNat : Int) + (k.toNat : Int)) % 4294967296 = (a7.toNat : Int) := by rw [ha7]; exact add_u32 _ _
      have E8 : ((a7.toNat : Int) + (x.toNat : Int)) % 4294967296 = (t.toNat : Int) := by rw [ht]; exact add_u32 _ _
      have HB4 := hid (show ∀ X, Calls Tryd.prog 35 #[.int .u32 v4.toNat, .int .i64 6, .int .i64 11, .int .i64 25] X fun v w' => v = .returned (.int .u32 b4.toNat) ∧ X = w' from fun X => by rw [hb4]; exact big_ok v4 (p := 6) (q := 11) (r := 25) (by decide) (by decide) (by decide) rfl rfl rfl X)
      have HC := hid (show ∀ X, St w [Blk gv (w32 V) 81, Blk gw (w32 ws) 86, Blk gr (w32 (List.replicate 8 0)) 81, Blk gh (w32 h) 81] X → X.cell? ⟨gv, 4, none⟩ = some (.int .u32 (v4.toNat : Int)) ∧ X.cell? ⟨gv, 5, none⟩ = some (.int .u32 (v5.toNat : Int)) ∧ X.cell? ⟨gv, 6, none⟩ = some (.int .u32 (v6.toNat : Int)) ∧ X.cell? ⟨gv, 7, none⟩ = some (.int .u32 (v7.toNat : Int)) ∧ X.cell? ⟨1, i, none⟩ = some (.int .u32 (k.toNat : Int)) ∧ X.cell? ⟨gw, i, none⟩ = some (.int .u32 (x.toNat : Int)) from fun X hX =>
        ⟨by rw [hv4]; exact wblk_cell hX (by omega), by rw [hv5]; exact wblk_cell hX (by omega), by rw [hv6]; exact wblk_cell hX (by omega), by rw [hv7]; exact wblk_cell hX (by omega), by rw [hk]; exact (HG.out X hX.below).round hlt, by rw [hx]; exact wblk_cell hX.at2 (by rw [HWL.out]; exact hlt)⟩)
      have HT := hid (show tW V k x = t by unfold tW chW; rw [← hv4, ← hv5, ← hv6, ← hv7, ← hb4, ← ha1, ← ha2, ← ha3, ← ha4, ← ha5, ← ha6, ← ha7, ← ht])
      obtain ⟨b0, hb0⟩ : ∃ x, x = bigW v0 2 13 22 := ⟨_, rfl⟩
      obtain ⟨d1, hd1⟩ : ∃ x, x = v0 &&& v1 := ⟨_, rfl⟩
      obtain ⟨d2, hd2⟩ : ∃ x, x = v0 &&& v2 := ⟨_, rfl⟩
      obtain ⟨d3, hd3⟩ : ∃ x, x = d1 ^^^ d2 := ⟨_, rfl⟩
      obtain ⟨d4, hd4⟩ : ∃ x, x = v1 &&& v2 := ⟨_, rfl⟩
      obtain ⟨d5, hd5⟩ : ∃ x, x = d3 ^^^ d4 := ⟨_, rfl⟩
      obtain ⟨u, hu⟩ : ∃ x, x = b0 + d5 := ⟨_, rfl⟩
      obtain ⟨tu, htu⟩ : ∃ x, x = t + u := ⟨_, rfl⟩
      obtain ⟨v3t, hv3t⟩ : ∃ x, x = v3 + t := ⟨_, rfl⟩
      have D1 : bits .and .u32 (v0.toNat : Int) (v1.toNat : Int) = (d1.toNat : Int) := by rw [hd1]; exact bits_and_u32 _ _
      have D2 : bits .and .u32 (v0.toNat : Int) (v2.toNat : Int) = (d2.toNat : Int) := by rw [hd2]; exact bits_and_u32 _ _
      have D3 : bits .xor .u32 (d1.toNat : Int) (d2.toNat : Int) = (d3.toNat : Int) := by rw [hd3]; exact bits_xor_u32 _ _
      have D4 : bits .and .u32 (v1.toNat : Int) (v2.toNat : Int) = (d4.toNat : Int) := by rw [hd4]; exact bits_and_u32 _ _
      have D5 : bits .xor .u32 (d3.toNat : Int) (d4.toNat : Int) = (d5.toNat : Int) := by rw [hd5]; exact bits_xor_u32 _ _
      have D6 : ((b0.toNat : Int) + (d5.toNat : Int)) % 4294967296 = (u.toNat : Int) := by rw [hu]; exact add_u32 _ _
      have D7 : ((t.toNat : Int) + (u.toNat : Int)) % 4294967296 = (tu.toNat : Int) := by rw [htu]; exact add_u32 _ _
      have D8 : ((v3.toNat : Int) + (t.toNat : Int)) % 4294967296 = (v3t.toNat : Int) := by rw [hv3t]; exact add_u32 _ _
      have HU := hid (show uW V = u by unfold uW majW; rw [← hv0, ← hv1, ← hv2, ← hb0, ← hd1, ← hd2, ← hd3, ← hd4, ← hd5, ← hu])
      have HST := hid (show roundsTo h ws (i + 1) = [tu, v0, v1, v2, v3t, v4, v5, v6] by rw [roundsTo, ← hV, ← hk, ← hx]; unfold stepW; rw [HT.out, HU.out, ← hv0, ← hv1, ← hv2, ← hv3, ← hv4, ← hv5, ← hv6, ← htu, ← hv3t])
      have HB0 := hid (show ∀ X, Calls Tryd.prog 35 #[.int .u32 v0.toNat, .int .i64 2, .int .i64 13, .int .i64 22] X fun v w' => v = .returned (.int .u32 b0.toNat) ∧ X = w' from fun X => by rw [hb0]; exact big_ok v0 (p := 2) (q := 13) (r := 22) (by decide) (by decide) (by decide) rfl rfl rfl X)
      have HC3 := hid (show ∀ X, St w [Blk gv (w32 V) 81, Blk gw (w32 ws) 86, Blk gr (w32 (List.replicate 8 0)) 81, Blk gh (w32 h) 81] X → X.cell? ⟨gv, 0, none⟩ = some (.int .u32 (v0.toNat : Int)) ∧ X.cell? ⟨gv, 1, none⟩ = some (.int .u32 (v1.toNat : Int)) ∧ X.cell? ⟨gv, 2, none⟩ = some (.int .u32 (v2.toNat : Int)) from fun X hX =>
        ⟨by rw [hv0]; exact wblk_cell hX (by omega), by rw [hv1]; exact wblk_cell hX (by omega), by rw [hv2]; exact wblk_cell hX (by omega)⟩)
      have HC4 := hid (show ∀ X, St w [Blk gv (w32 V) 81, Blk gw (w32 ws) 86, Blk gr (w32 (List.replicate 8 0)) 81, Blk gh (w32 h) 81] X → X.cell? ⟨gv, 3, none⟩ = some (.int .u32 (v3.toNat : Int)) from fun X hX => by rw [hv3]; exact wblk_cell hX (by omega))
      have BB := fun W => run_buildK (build8w tu v0 v1 v2 v3t v4 v5 v6 W)
      have HV8 := hid ((w32_size V).trans hV8)
      have HN8 := hid (show (w32 [tu, v0, v1, v2, v3t, v4, v5, v6]).size = 8 from rfl)
      clear hV hv0 hv1 hv2 hv3 hv4 hv5 hv6 hv7 hk hx hb4 ha1 ha2 ha3 ha4 ha5 ha6 ha7 ht hb0 hd1 hd2 hd3 hd4 hd5 hu htu hv3t hV8
      go_wp2_with fail
      refine wp_region_ord [] [(0, 1), (1, 1), (2, 1), (3, 1), (6, 1), (7, 1), (8, 1), (9, 1), (10, 1), (11, 1), (12, 1), (13, 1), (14, 1), (15, 1), (16, 1), (17, 1), (19, 1), (20, 1), (21, 1), (23, 1), (24, 1), (25, 1), (4, 2), (5, 1), (18, 1), (22, 1), (26, 1), (27, 1)] (fun X => St w [Blk gv (w32 V) 81, Blk gw (w32 ws) 86, Blk gr (w32 (List.replicate 8 0)) 81, Blk gh (w32 h) 81] X) (by kernel_rfl) (by kernel_rfl) (fun d _ c _ _ h => by cases d <;> exact h) (HS.out.turn (Below.drew (Below.refl _ _))) (fun X hXe hX => ?_)
      clear hXe HS
      repeat (apply wpOrd_class; ((· first | (rw [List.getElem?_toArray, List.getElem?_cons_zero]; done) | (simp only [List.getElem?_toArray, List.getElem?_cons_succ, List.getElem?_cons_zero]; exact rfl))); (· exact rfl); intro K hK; apply Exists.intro; refine And.intro (fun X' hX' => ?_) ?_; (· obtain ⟨hq1, hq2, hq3, hq4, hq5, hq6⟩ := HC.out _ hX'; clear hX'; go_simp; (try go_bits); first | done | exact rfl | exact ⟨rfl, rfl⟩); go_simp; refine hK _ _ ?_; clear hK K)
      (apply wpOrd_comes; ((· first | (rw [List.getElem?_toArray, List.getElem?_cons_zero]; done) | (simp only [List.getElem?_toArray, List.getElem?_cons_succ, List.getElem?_cons_zero]; exact rfl))); intro N hN)
      go_wp2_with (go_at_call 35; (with_reducible refine (HB4.out _).mono ?_); rintro v X2 ⟨rfl, rfl⟩)
      refine hN _ _ (fun _ => hX) ?_
      clear hN N
      repeat (apply wpOrd_class; ((· first | (rw [List.getElem?_toArray, List.getElem?_cons_zero]; done) | (simp only [List.getElem?_toArray, List.getElem?_cons_succ, List.getElem?_cons_zero]; exact rfl))); (· exact rfl); intro K hK; apply Exists.intro; refine And.intro (fun X' hX' => ?_) ?_; (· obtain ⟨hq1, hq2, hq3, hq4, hq5, hq6⟩ := HC.out _ hX'; clear hX'; go_simp; (try go_bits); first | done | exact rfl | exact ⟨rfl, rfl⟩); go_simp; refine hK _ _ ?_; clear hK K)
      refine wpOrd_done ?_
      have HX := hid hX
      clear hX
      go_wp2_with fail
      refine wp_region_ord [] [(0, 1), (1, 1), (3, 1), (4, 1), (5, 1), (6, 1), (7, 1), (8, 1), (9, 1), (10, 1), (11, 1), (12, 1), (13, 1), (14, 1), (15, 1), (16, 1), (17, 1), (18, 1), (19, 1), (2, 2), (20, 1), (21, 1)] (fun X => St w [Blk gv (w32 V) 81, Blk gw (w32 ws) 86, Blk gr (w32 (List.replicate 8 0)) 81, Blk gh (w32 h) 81] X) (by kernel_rfl) (by kernel_rfl) (fun d _ c _ _ h => by cases d <;> exact h) (HX.out.turn (Below.drew (Below.refl _ _))) (fun X hXe hX => ?_)
      clear hXe HX
      repeat (apply wpOrd_class; ((· first | (rw [List.getElem?_toArray, List.getElem?_cons_zero]; done) | (simp only [List.getElem?_toArray, List.getElem?_cons_succ, List.getElem?_cons_zero]; exact rfl))); (· exact rfl); intro K hK; apply Exists.intro; refine And.intro (fun X' hX' => ?_) ?_; (· obtain ⟨hq1, hq2, hq3⟩ := HC3.out _ hX'; clear hX'; go_simp; (try go_bits); first | done | exact rfl | exact ⟨rfl, rfl⟩); go_simp; refine hK _ _ ?_; clear hK K)
      (apply wpOrd_comes; ((· first | (rw [List.getElem?_toArray, List.getElem?_cons_zero]; done) | (simp only [List.getElem?_toArray, List.getElem?_cons_succ, List.getElem?_cons_zero]; exact rfl))); intro N hN)
      go_wp2_with (go_at_call 35; (with_reducible refine (HB0.out _).mono ?_); rintro v X2 ⟨rfl, rfl⟩)
      refine hN _ _ (fun _ => hX) ?_
      clear hN N
      repeat (apply wpOrd_class; ((· first | (rw [List.getElem?_toArray, List.getElem?_cons_zero]; done) | (simp only [List.getElem?_toArray, List.getElem?_cons_succ, List.getElem?_cons_zero]; exact rfl))); (· exact rfl); intro K hK; apply Exists.intro; refine And.intro (fun X' hX' => ?_) ?_; (· obtain ⟨hq1, hq2, hq3⟩ := HC3.out _ hX'; clear hX'; go_simp; (try go_bits); first | done | exact rfl | exact ⟨rfl, rfl⟩); go_simp; refine hK _ _ ?_; clear hK K)
      refine wpOrd_done ?_
      have HX := hid hX
      clear hX
      obtain ⟨c4, c5, c6, c7, _, _⟩ := HC.out X HX.out
      obtain ⟨c0, c1, c2⟩ := HC3.out X HX.out
      have c3 := HC4.out X HX.out
      go_wp2_with (refine wpList_store_box 81 _ _ rfl gv rfl rfl (w32 [tu, v0, v1, v2, v3t, v4, v5, v6]) rfl 8 size8w HN8.out (w32_one _) 81 _ HX.out.blk HV8.out ?_; intro W5 hB hT hs; have H5 := hid (HX.out.put hB hT); clear hB hT hs)
      rw [← HST.out] at H5
      go_roundw
      case rel => exact ⟨i + 1, by omega, by go_num, H5⟩
      case measure => simp [intOf]; omega
    · have e1 : ¬ (i : Int) < 64 := by omega
      obtain rfl : i = 64 := by omega
      obtain ⟨V, hV⟩ : ∃ V, V = roundsTo h ws 64 := ⟨_, rfl⟩
      have HV8 := hid (show V.length = 8 by rw [hV]; exact roundsTo_len HHL.out 64)
      have HVE := hid hV
      rw [← hV] at HS
      clear hV
      have H9 := hid HS.out.at4
      clear HS
      go_wp2_with fail
      go_loopw [10, 86] (fun _ v X => ∃ i : Nat, i ≤ 8 ∧ v = .int .i64 i ∧ Hid (St w [Blk gh (w32 (addTo h V i)) 81, Blk gv (w32 V) 81, Blk gw (w32 ws) 86, Blk gr (w32 (List.replicate 8 0)) 81] X)) (fun _ v _ => 8 - (intOf v).toNat)
      case atStart => exact ⟨0, Nat.zero_le _, rfl, H9⟩
      case round =>
        clear H9
        obtain ⟨i, hi, rfl, HS⟩ := hrel
        by_cases hlt : i < 8
        · have e1 : (i : Int) < 8 := by omega
          have e0 : (0 : Int) ≤ (i : Int) := by omega
          obtain ⟨x, hx⟩ : ∃ x, x = (addTo h V i).getD i 0 := ⟨_, rfl⟩
          obtain ⟨y, hy⟩ : ∃ x, x = V.getD i 0 := ⟨_, rfl⟩
          obtain ⟨z, hz⟩ : ∃ z, z = x + y := ⟨_, rfl⟩
          have E1 : ((x.toNat : Int) + (y.toNat : Int)) % 4294967296 = (z.toNat : Int) := by rw [hz]; exact add_u32 _ _
          have HY := hid (show (addTo h V i).set i z = addTo h V (i + 1) by rw [addTo, hz, hx, hy])
          have HC := hid (show ∀ X, St w [Blk gh (w32 (addTo h V i)) 81, Blk gv (w32 V) 81, Blk gw (w32 ws) 86, Blk gr (w32 (List.replicate 8 0)) 81] X → X.cell? ⟨gh, i, none⟩ = some (.int .u32 (x.toNat : Int)) ∧ X.cell? ⟨gv, i, none⟩ = some (.int .u32 (y.toNat : Int)) from fun X hX => ⟨by rw [hx]; exact wblk_cell hX (by rw [addTo_len HHL.out]; exact hlt), by rw [hy]; exact wblk_cell hX.at2 (by rw [HV8.out]; exact hlt)⟩)
          clear hx hy hz
          go_wp2_with fail
          refine wp_region_ord [8] [(0, 1), (1, 1), (2, 1), (3, 1), (4, 1), (5, 1), (6, 1), (7, 1), (8, 2)] (fun X => St w [Blk gh (w32 (addTo h V i)) 81, Blk gv (w32 V) 81, Blk gw (w32 ws) 86, Blk gr (w32 (List.replicate 8 0)) 81] X) (by kernel_rfl) (by kernel_rfl) (fun d _ c _ _ h => by cases d <;> exact h) (HS.out.turn (Below.drew (Below.refl _ _))) (fun X hXe hX => ?_)
          clear hXe HS
          repeat (apply wpOrd_class; ((· first | (rw [List.getElem?_toArray, List.getElem?_cons_zero]; done) | (simp only [List.getElem?_toArray, List.getElem?_cons_succ, List.getElem?_cons_zero]; exact rfl))); (· exact rfl); intro K hK; apply Exists.intro; refine And.intro (fun X' hX' => ?_) ?_; (· obtain ⟨hq1, hq2⟩ := HC.out _ hX'; clear hX'; go_simp; (try go_bits); first | done | exact rfl | exact ⟨rfl, rfl⟩); go_simp; refine hK _ _ ?_; clear hK K)
          obtain ⟨c3, _⟩ := HC.out X hX
          have f3 := frozen_of_row X gh i _ _ hX.blk
          (apply wpOrd_comes; ((· first | (rw [List.getElem?_toArray, List.getElem?_cons_zero]; done) | (simp only [List.getElem?_toArray, List.getElem?_cons_succ, List.getElem?_cons_zero]; exact rfl))); intro N hN)
          go_wp2_with fail
          have H3 := hid (hX.setCell i (.int .u32 (z.toNat : Int)))
          rw [w32_set, HY.out] at H3
          clear hX c3 f3
          refine hN _ _ (fun h => by cases h) ?_
          clear hN N
          refine wpOrd_done ?_
          go_wp2_with fail
          go_roundw
          case rel => exact ⟨i + 1, by omega, by go_num, H3⟩
          case measure => simp [intOf]; omega
        · have e1 : ¬ (i : Int) < 8 := by omega
          obtain rfl : i = 8 := by omega
          have HZ := hid ((w32_size (addTo h V 8)).trans (addTo_len HHL.out 8))
          have LB : (loadK 81 (.pointer (some ⟨gh, 0, none⟩))).run Tryd.prog wr = .ok (.value (.agg (w32 (addTo h V 8)))) wr := run_loadK_box HS.out.blk Tryd.underlying81 rfl size8w HZ.out
          go_wp2_with (refine wpList_store_box 81 _ _ rfl gr rfl rfl (w32 (addTo h V 8)) rfl 8 size8w HZ.out (w32_one _) 81 _ HS.out.at4.blk HZ8.out ?_; intro W5 hB5 hT5 hs5; have H5 := hid (HS.out.at4.put hB5 hT5))
          exact bodyPost_ret (results_cell rfl _ _ _ gr 81 (w32 _) (0, 0) rfl hB5 Tryd.underlying81 (by rw [HZ.out]; exact size8w)) rfl ⟨by rw [← HVE.out], H5.out.below⟩
end Go.Proofs.YthmchbdhikakhaaDoor
/- Bytes that can be read behind a slice, appended to a row of bytes: of none too. -/
namespace Go.Cu
open Go Go.RowKit
section
variable {P : Program}
theorem run_append_zero {w : World} (base : Nat) (t ty e : TypeId) (i : TypeInfo) (size : Nat) (ht : P.underlying t = some (.slice e)) (hi : P.info? e = some i)
    (v : Value) (n : Nat) (xs : List Value) (hown : w.ownsRow base e size v n xs) (B : Option Addr) (c : Nat) :
    (Builtin.append_ #[t, t] ty #[v, .slice B 0 c]).run P w = .ok v w := by
  have hl : ∀ a : Addr, (loadCells a 0).run P w = .ok #[] w := fun a => run_loadCells_list (P := P) w a [] (fun j v hj => by cases hj)
  rcases hown.2 with ⟨rfl, rfl⟩ | ⟨g, cap, cur, rfl, _, _, hnc, _⟩
  · cases B <;> simp [Builtin.append_, run_underlying ht, sizeOf, typeInfo, hi, Builtin.lenOf, Builtin.firstCells, hl]
  · cases B <;> simp [Builtin.append_, run_underlying ht, sizeOf, typeInfo, hi, Builtin.lenOf, Builtin.firstCells, hnc, storeCells, hl]
theorem wpList_append_bytes {ops : Array Oper} {rest : List Oper} {o : Oper} {a : Act} {w : World} {Q : Exit → Act → World → Prop} (s x : Operand) (t : TypeId)
    (ho : o.op = .call { callee := .builtin .append, args := #[s, x], argTypes := #[t, t] }) (v : Value) (hs : a.eval s = v) (B : Option Addr) (c : Nat) (r : List UInt8) (hx : a.eval x = .slice B r.length c) (hw : Region.wanted o (yielded ops a.tmps) = true)
    (e : TypeId) (i : TypeInfo) (ht : P.underlying t = some (.slice e)) (hi : P.info? e = some i) (hz : i.zero = some (.int .u8 0))
    (hsize : i.size = 1) (hby : i.bytes = 1)
    (n : Nat) (xs : List Value) (hown : w.ownsRow 0 e 1 v n xs) (hb : BytesIn w B r)
    (h63 : n + r.length ≤ 140737488355328)
    (h : ∀ v' w', w'.ownsRow 0 e 1 v' (n + r.length) (xs ++ bvL r) → Tch (fun g => v.ownBlock = some g) w w' → (v'.ownBlock = v.ownBlock ∨ v'.ownBlock = some w.heap.size) → wpList P ops Q rest (a.put o.dst v') w') : wpList P ops Q (o :: rest) a w := by
  match r, hb, h63, h, hx with
  | [], hb, h63, h, hx =>
    refine wpList_wanted hw fun K hK => ?_
    have hrun := run_append_zero 0 t o.type e i 1 ht hi v n xs hown B c
    unfold Oper.wp execOp
    simp only [ho, resolve, invoke, builtin, Sem.run_bind, Sem.run_pure, Result.andThen_ok, List.map_toArray, List.map_cons, List.map_nil, hs, hx, List.length_nil, hrun]
    exact hK _ _ (h v w (by simpa [bvL] using hown) (Tch.refl _ _) (.inl rfl))
  | b :: r, hb, h63, h, hx =>
    obtain ⟨g, o', rfl, _, _⟩ := hb 0 b rfl
    refine wpList_append_at s x t ho v hs ⟨g, o', none⟩ (b :: r).length c hx hw e i (.int .u8 0) 1 1 ht hi hz hsize hby rfl (by decide) n xs hown (bvL (b :: r)) (by simp [bvL]) (fun j u hj => ?_) (bvL_one _) (by unfold maxLen; omega) (by omega) h
    unfold bvL at hj
    rw [List.getElem?_map] at hj
    cases hq : (b :: r)[j]? with
    | none => rw [hq] at hj; cases hj
    | some q =>
      rw [hq] at hj
      obtain rfl : Value.int .u8 q.toNat = u := by simpa using hj
      obtain ⟨g', o2, e', _, hc⟩ := hb j q hq
      cases e'
      have e3 : (⟨g, o', none⟩ : Addr).add j = ⟨g, o' + j, none⟩ := by unfold Addr.add; split <;> simp_all
      rw [e3]
      exact hc
end
end Go.Cu
namespace Go.Proofs.YthmchbdhikakhaaDoor
open Go.RowKit Go.Cu
section
variable {W0 W : World} {L : List Atm}
end
end Go.Proofs.YthmchbdhikakhaaDoor
/- Few: no more than some records, of no more than some bytes. -/
namespace Go.Cu
open Go Go.RowKit
section
variable {W0 W : World} {L : List Atm}
/-- A row of bytes is a value. -/
theorem St.row_val {A : Option Addr} {c e n : Nat} {bs : List UInt8} (h : St W0 (Row (.slice A n c) e 1 n (bvL bs) :: L) W) (hn : n = bs.length) : St W0 (Vals [.slice A n c] [bs] :: L) W := by
  obtain ⟨F, ha, hF, hr⟩ := h.first
  refine hr _ _ ⟨rfl, fun i r hi => ?_⟩ (Tch.refl _ _)
  match i with
  | i + 1 => cases hi
  | 0 =>
    obtain rfl : bs = r := by simpa using hi
    rcases ha.2.2 with ⟨h1, h0⟩ | ⟨g, cap, cur, e1, _, hh, hc, hm, _, hp⟩
    · have : bs = [] := List.eq_nil_of_length_eq_zero (by omega)
      subst this
      have e2 : A = none ∧ c = 0 := by injection h1 with p1 p2 p3; exact ⟨p1, p3⟩
      exact ⟨A, c, by rw [hn]; rfl, by simp, by rw [e2.2]; exact Nat.zero_le _, fun k b hb => by cases hb⟩
    · have e2 : A = some ⟨g, 0, none⟩ ∧ c = cap := by injection e1 with p1 p2 p3; exact ⟨p1, p3⟩
      refine ⟨A, c, by rw [hn]; rfl, by omega, by omega, fun k b hb => ?_⟩
      have hk : k < n := by
        rw [hn]
        rcases Nat.lt_or_ge k bs.length with h | h
        · exact h
        · rw [List.getElem?_eq_none h] at hb; cases hb
      refine ⟨g, 0, e2.1, .inl (ha.1 g (by rw [e2.1]; rfl)), heap_lt hh, ?_⟩
      rw [cell_of_row W g (0 + k) _ _ _ hh, Nat.zero_add]
      have h3 : (cur.toList.take (n * 1))[k]? = some (Value.int .u8 b.toNat) := by rw [hp]; unfold bvL; rw [List.getElem?_map, hb]; rfl
      rw [Nat.mul_one, List.getElem?_take_of_lt (by omega)] at h3
      simpa using h3
end
theorem BytesIn.take {W : World} {A : Option Addr} {r : List UInt8} (h : BytesIn W A r) (m : Nat) : BytesIn W A (r.take m) := fun i b hi => by
  have hi' : i < m := by
    rcases Nat.lt_or_ge i m with h1 | h1
    · exact h1
    · rw [List.getElem?_eq_none (by rw [List.length_take]; omega)] at hi; cases hi
  rw [List.getElem?_take_of_lt hi'] at hi
  exact h i b hi
/-- What Few answers. -/
def fewL (rs : List (List UInt8)) (most size : Nat) : List (List UInt8) := (rs.take most).map fun r => r.take size
end Go.Cu
namespace Go.Proofs.YthmchbdhikakhaaDoor
open Go.RowKit Go.Cu
section
variable {W0 W : World} {L : List Atm}
end
end Go.Proofs.YthmchbdhikakhaaDoor
/- A sum that goes on: plainly, and in memory. -/
namespace Go.Cu
open Go Go.RowKit
/-- The words behind so many blocks. -/
def absorbTo (ws : List UInt32) (all : List UInt8) : Nat → List UInt32
  | 0 => ws
  | i + 1 => pressW (absorbTo ws all i) ((all.drop (64 * i)).take 64)
theorem absorbTo_len {ws : List UInt32} (hw : ws.length = 8) (all : List UInt8) : ∀ i, (absorbTo ws all i).length = 8
  | 0 => hw
  | i + 1 => pressW_len (absorbTo_len hw all i) _
theorem absorbTo_left (ws : List UInt32) (m b : List UInt8) : ∀ k, 64 * k ≤ m.length → absorbTo ws (m ++ b) k = absorbTo ws m k
  | 0, _ => rfl
  | k + 1, h => by
    rw [absorbTo, absorbTo, absorbTo_left ws m b k (by omega)]
    congr 1
    rw [List.drop_append_of_le_length (by omega), List.take_append_of_le_length (by rw [List.length_drop]; omega)]
theorem absorbTo_join (ws : List UInt32) (m b : List UInt8) (k : Nat) (hk : 64 * k ≤ m.length) : ∀ i, absorbTo ws (m ++ b) (k + i) = absorbTo (absorbTo ws m k) (m.drop (64 * k) ++ b) i
  | 0 => absorbTo_left ws m b k hk
  | i + 1 => by
    rw [show k + (i + 1) = k + i + 1 by omega, absorbTo, absorbTo, absorbTo_join ws m b k hk i]
    congr 2
    rw [show 64 * (k + i) = 64 * k + 64 * i by omega, ← List.drop_drop, List.drop_append_of_le_length hk]
/-- What a sum holds behind a message: its words and what is left. -/
def wordsOf (m : List UInt8) : List UInt32 := absorbTo startL m (m.length / 64)
def restOf (m : List UInt8) : List UInt8 := m.drop (64 * (m.length / 64))
theorem restOf_len (m : List UInt8) : (restOf m).length = m.length % 64 := by
  unfold restOf
  rw [List.length_drop]
  omega
theorem wordsOf_len (m : List UInt8) : (wordsOf m).length = 8 := absorbTo_len startL_len _ _
theorem wordsOf_more (m b : List UInt8) : wordsOf (m ++ b) = absorbTo (wordsOf m) (restOf m ++ b) ((restOf m ++ b).length / 64) := by
  have h := absorbTo_join startL m b (m.length / 64) (by omega) ((restOf m ++ b).length / 64)
  unfold wordsOf
  unfold restOf at h ⊢
  rw [← h]
  congr 1
  rw [List.length_append, List.length_append, List.length_drop]
  omega
theorem restOf_more (m b : List UInt8) : restOf (m ++ b) = (restOf m ++ b).drop (64 * ((restOf m ++ b).length / 64)) := by
  have hl := restOf_len m
  unfold restOf at hl ⊢
  rw [← List.drop_append_of_le_length (l₂ := b) (by omega), List.drop_drop]
  congr 1
  rw [List.length_drop, List.length_append]
  omega
def hashV (ws : List UInt32) (s : Value) (n : Nat) : Array Value := ((ws.map fun x => Value.int .u32 x.toNat) ++ [s, .int .i64 n]).toArray
theorem hashV_size {ws : List UInt32} (h : ws.length = 8) (s : Value) (n : Nat) : (hashV ws s n).size = 10 := by simp [hashV, h]
theorem hashV_word {ws : List UInt32} (h : ws.length = 8) (s : Value) (n : Nat) {i : Nat} (hi : i < 8) : (hashV ws s n)[i]? = (w32 ws)[i]? := by
  simp only [hashV, w32, List.getElem?_toArray]
  rw [List.getElem?_append_left (by simp [h, hi])]
theorem hashV_rest {ws : List UInt32} (h : ws.length = 8) (s : Value) (n : Nat) : (hashV ws s n)[8]? = some s := by
  simp only [hashV, List.getElem?_toArray]
  rw [List.getElem?_append_right (by simp [h])]
  simp [h]
theorem hashV_n {ws : List UInt32} (h : ws.length = 8) (s : Value) (n : Nat) : (hashV ws s n)[9]? = some (.int .i64 n) := by
  simp only [hashV, List.getElem?_toArray]
  rw [List.getElem?_append_right (by simp [h])]
  simp [h]
theorem hashV_set8 {ws : List UInt32} (h : ws.length = 8) (s s' : Value) (n : Nat) : (hashV ws s n).setIfInBounds 8 s' = hashV ws s' n := by
  match ws, h with
  | [a, b, c, d, e, f, g, i], _ => rfl
theorem hashV_set9 {ws : List UInt32} (h : ws.length = 8) (s : Value) (n m : Nat) : (hashV ws s n).setIfInBounds 9 (.int .i64 m) = hashV ws s m := by
  match ws, h with
  | [a, b, c, d, e, f, g, i], _ => rfl
theorem hashV_put {ws ws' : List UInt32} (h : ws.length = 8) (h' : ws'.length = 8) (s : Value) (n : Nat) : putAt (hashV ws s n) 0 (w32 ws').toList = hashV ws' s n := by
  match ws, h, ws', h' with
  | [a, b, c, d, e, f, g, i], _, [a', b', c', d', e', f', g', i'], _ => rfl
theorem BytesIn.shift {W : World} {g o : Nat} {l : List UInt8} (h : BytesIn W (some ⟨g, o, none⟩) l) (k : Nat) : BytesIn W (some ⟨g, o + k, none⟩) (l.drop k) := fun i b hi => by
  rw [List.getElem?_drop] at hi
  obtain ⟨g', o', e, hg, hc⟩ := h (k + i) b hi
  cases e
  exact ⟨g, o + k, rfl, hg, by rw [Nat.add_assoc]; exact hc⟩
section
variable {P : Program}
/-- append onto a slice that is full, of bytes. -/
theorem run_append_full {w : World} (t ty e : TypeId) (i : TypeInfo) (ht : P.underlying t = some (.slice e)) (hi : P.info? e = some i) (hz : i.zero = some (.int .u8 0)) (hsize : i.size = 1) (hby : i.bytes = 1)
    (A : Option Addr) (r : List UInt8) (hr : BytesIn w A r) (B : Option Addr) (c : Nat) (b : List UInt8) (hb : BytesIn w B b) (h63 : r.length + b.length ≤ 140737488355328) :
    ∃ A' c' w', (Builtin.append_ #[t, t] ty #[.slice A r.length r.length, .slice B b.length c]).run P w = .ok (.slice A' (r ++ b).length c') w' ∧
      ∀ W0 L c0, r.length ≤ c0 → c0 ≤ maxLen → St W0 (Vals [.slice A r.length c0] [r] :: L) w → St W0 (Vals [.slice A' (r ++ b).length c'] [r ++ b] :: L) w' := by
  have hl0 : ∀ a : Addr, (loadCells a 0).run P w = .ok #[] w := fun a => run_loadCells_list (P := P) w a [] (fun j v hj => by cases hj)
  match b, hb, h63 with
  | [], _, _ =>
    refine ⟨A, r.length, w, ?_, fun W0 L c0 h1 h2 h => ?_⟩
    · rw [List.append_nil]
      cases A <;> cases B <;> simp [Builtin.append_, run_underlying ht, sizeOf, typeInfo, hi, Builtin.lenOf, Builtin.firstCells, storeCells, hl0]
    · rw [List.append_nil]
      obtain ⟨F, ha, _, hrr⟩ := h.first
      refine hrr _ _ ⟨rfl, fun i q hq => ?_⟩ (Tch.refl _ _)
      obtain ⟨A1, c1, e1, g1, g2, g3⟩ := ha.2 i q hq
      match i with
      | i + 1 => cases hq
      | 0 =>
        obtain rfl : r = q := by simpa using hq
        have e2 : Value.slice A r.length c0 = .slice A1 r.length c1 := Option.some.inj e1
        injection e2 with e3 _ _
        subst e3
        exact ⟨A, r.length, rfl, Nat.le_refl _, Nat.le_trans h1 h2, g3.mono fun _ _ hf => .inl hf⟩
  | b0 :: b, hb, h63 =>
    obtain ⟨gb, ob, rfl, _, _⟩ := hb 0 b0 rfl
    have hnews : ∀ j u, (bvL (b0 :: b))[j]? = some u → w.cell? ((⟨gb, ob, none⟩ : Addr).add j) = some u := by
      intro j u hj
      unfold bvL at hj
      rw [List.getElem?_map] at hj
      cases hq : (b0 :: b)[j]? with
      | none => rw [hq] at hj; cases hj
      | some q =>
        rw [hq] at hj
        obtain rfl : Value.int .u8 q.toNat = u := by simpa using hj
        obtain ⟨g', o', e', _, hc⟩ := hb j q hq
        cases e'
        have e3 : (⟨gb, ob, none⟩ : Addr).add j = ⟨gb, ob + j, none⟩ := by unfold Addr.add; split <;> simp_all
        rw [e3]; exact hc
    have key : ∃ v' w', (Builtin.append_ #[t, t] ty #[.slice A r.length r.length, .slice (some ⟨gb, ob, none⟩) (b0 :: b).length c]).run P w = .ok v' w' ∧ w'.ownsRow w.heap.size e 1 v' (r.length + (b0 :: b).length) (bvL r ++ bvL (b0 :: b)) ∧ w.grownBy w' none := by
      cases A with
      | some a =>
        obtain ⟨ga, oa, sp⟩ := a
        exact run_append_arg_grows (P := P) w t ty e i (.int .u8 0) 1 1 ht hi hz hsize hby rfl (by decide) ⟨ga, oa, sp⟩ r.length r.length (bvL r) (by rw [bvL_len, Nat.mul_one]) (fun j u hj => by
          unfold bvL at hj
          rw [List.getElem?_map] at hj
          cases hq : r[j]? with
          | none => rw [hq] at hj; cases hj
          | some q =>
            rw [hq] at hj
            obtain rfl : Value.int .u8 q.toNat = u := by simpa using hj
            obtain ⟨g', o', e', _, hc⟩ := hr j q hq
            cases e'
            have e3 : (⟨ga, oa, none⟩ : Addr).add j = ⟨ga, oa + j, none⟩ := by unfold Addr.add; split <;> simp_all
            rw [e3]; exact hc) ⟨gb, ob, none⟩ (b0 :: b).length c (bvL (b0 :: b)) (by rw [bvL_len, Nat.mul_one]) hnews (by simp) (by unfold maxLen; omega) (by omega)
      | none =>
        have hr0 : r = [] := by
          cases r with
          | nil => rfl
          | cons q r => obtain ⟨g, o, e, _⟩ := hr 0 q rfl; cases e
        subst hr0
        obtain ⟨v', w', hrun, h2, h3, h4, h5⟩ := run_append_own_at (P := P) w w.heap.size t ty e i (.int .u8 0) 1 1 ht hi hz hsize hby rfl (by decide) (.slice none 0 0) 0 [] (World.ownsRow_nil _ _ _ _) ⟨gb, ob, none⟩ (b0 :: b).length c (bvL (b0 :: b)) (by rw [bvL_len, Nat.mul_one]) hnews (bvL_one _) (by unfold maxLen; omega) (by omega) (Nat.le_refl _)
        exact ⟨v', w', hrun, h2, h3⟩
    obtain ⟨v', w', hrun, hown, hgr⟩ := key
    rcases hown.2 with ⟨_, h0⟩ | ⟨g', cap, cur, rfl, hge, hh, hcap, hmax, hcs, htk⟩
    · simp at h0
    · refine ⟨some ⟨g', 0, none⟩, cap, w', by rw [List.length_append]; exact hrun, fun W0 L c0 h1 h2 h => ?_⟩
      refine h.drop.push ⟨hgr.os, hgr.tape, hgr.output, hgr.size, fun k hk => hgr.block k hk (by simp)⟩ ⟨rfl, fun i q hq => ?_⟩
      match i with
      | i + 1 => cases hq
      | 0 =>
        obtain rfl : r ++ b0 :: b = q := by simpa using hq
        refine ⟨some ⟨g', 0, none⟩, cap, rfl, by rw [List.length_append]; exact hcap, hmax, fun k bb hbb => ⟨g', 0, rfl, hge, heap_lt hh, ?_⟩⟩
        rw [Nat.zero_add, cell_of_row w' g' k _ _ _ hh]
        have hk : k < r.length + (b0 :: b).length := by
          rw [← List.length_append]
          exact (List.getElem?_eq_some_iff.1 hbb).1
        have h3 : (cur.toList.take ((r.length + (b0 :: b).length) * 1))[k]? = some (Value.int .u8 bb.toNat) := by
          rw [htk]
          unfold bvL
          rw [← List.map_append, List.getElem?_map, hbb]
          rfl
        rw [Nat.mul_one, List.getElem?_take_of_lt hk] at h3
        simpa using h3
end
end Go.Cu
/- New and Write of a sum. -/
namespace Go.Cu
open Go Go.RowKit
theorem wpList_append_full {P : Program} {ops : Array Oper} {rest : List Oper} {o : Oper} {a : Act} {w : World} {Q : Exit → Act → World → Prop} (s x : Operand) (t : TypeId)
    (ho : o.op = .call { callee := .builtin .append, args := #[s, x], argTypes := #[t, t] }) (A : Option Addr) (r : List UInt8) (hs : a.eval s = .slice A r.length r.length) (B : Option Addr) (c : Nat) (b : List UInt8) (hx : a.eval x = .slice B b.length c) (hw : Region.wanted o (yielded ops a.tmps) = true)
    (e : TypeId) (i : TypeInfo) (ht : P.underlying t = some (.slice e)) (hi : P.info? e = some i) (hz : i.zero = some (.int .u8 0)) (hsize : i.size = 1) (hby : i.bytes = 1)
    (hr : BytesIn w A r) (hb : BytesIn w B b) (h63 : r.length + b.length ≤ 140737488355328) (n : Nat) (hn : n = (r ++ b).length)
    (h : ∀ A' c' w', (∀ W0 L c0, r.length ≤ c0 → c0 ≤ maxLen → St W0 (Vals [.slice A r.length c0] [r] :: L) w → St W0 (Vals [.slice A' n c'] [r ++ b] :: L) w') → wpList P ops Q rest (a.put o.dst (.slice A' n c')) w') : wpList P ops Q (o :: rest) a w := by
  subst hn
  refine wpList_wanted hw fun K hK => ?_
  obtain ⟨A', c', w', hrun, hk⟩ := run_append_full (P := P) (w := w) t o.type e i ht hi hz hsize hby A r hr B c b hb h63
  unfold Oper.wp execOp
  simp only [ho, resolve, invoke, builtin, Sem.run_bind, Sem.run_pure, Result.andThen_ok, List.map_toArray, List.map_cons, List.map_nil, hs, hx, hrun]
  exact hK _ _ (h A' c' w' hk)
end Go.Cu
namespace Go.Proofs.YthmchbdhikakhaaDoor
open Go.RowKit Go.Cu
@[go_sem ↓] theorem bdktHASH (a : Act) (dst : Option Tmp) (ps : Array (Nat × Operand)) (ty : TypeId) (pos : String) (after : Array Edge) (guard : Option (Nat × Bool)) :
    execOp a.eval { dst, op := .build 83 ps, type := ty, pos, after, guard } = buildK 83 (ps.map fun (i, x) => (i, a.eval x)) := rfl
set_option maxRecDepth 20000 in
theorem buildHash (W : World) : (Instr.build 83 #[(0, .agg (w32 startL))]).run Tryd.prog W = .ok (.agg (hashV startL (.slice none 0 0) 0)) W := by kernel_rfl
section
variable {W0 W : World} {L : List Atm}
/-- A sum that goes on, behind a message. -/
abbrev Hashed (g : Nat) (A : Option Addr) (c : Nat) (m : List UInt8) (L : List Atm) : List Atm := Blk g (hashV (wordsOf m) (.slice A (restOf m).length c) m.length) 83 :: Vals [.slice A (restOf m).length c] [restOf m] :: L
theorem hnew_st (h : St W0 L W) (hG : Glob W0) : Calls Tryd.prog 25 #[] W fun r w' => ∃ g, r = .returned (.pointer (some ⟨g, 0, none⟩)) ∧ St W0 (Hashed g none 0 [] L) w' := by
  have HH := hid h
  obtain ⟨t0, f0, _, _, h0, _⟩ := hG.below h.below hG.two
  have LG : (loadK 81 (.pointer (some ⟨0, 0, none⟩))).run Tryd.prog W = .ok (.value (.agg (w32 startL))) W := run_loadK_box h0 Tryd.underlying81 rfl size8w rfl
  have BB := fun W => run_buildK (buildHash W)
  clear h hG h0
  go_enter Tryd.func25, Tryd.ntmps25
  go_wp2_with (refine wpList_box rfl 83 _ rfl (.agg (hashV startL (.slice none 0 0) 0)) rfl ?_; intro gh W1 h1 hl1 hg1 hW1; have H1 := hid (HH.out.newBlk hW1 hg1 h1); clear h1 hl1 hg1 hW1)
  go_ret
  refine ⟨gh, rfl, ?_⟩
  have h2 : St W0 (Vals [.slice none 0 0] [[]] :: Blk gh (hashV startL (.slice none 0 0) 0) 83 :: L) W1 := H1.out.push (Below.refl _ _) ⟨rfl, fun i r hi => by
    match i with
    | i + 1 => cases hi
    | 0 =>
      obtain rfl : [] = r := by simpa using hi
      exact ⟨none, 0, rfl, Nat.le_refl _, Nat.zero_le _, fun k b hb => by cases hb⟩⟩
  exact h2.at2
theorem vals_one {A : Option Addr} {c n : Nat} {r : List UInt8} {X : World} (h : St W0 (Vals [.slice A n c] [r] :: L) X) (_hn : n = r.length) : BytesIn X A r ∧ r.length ≤ c ∧ c ≤ maxLen := by
  obtain ⟨A', c', e1, h1, h2, hb⟩ := h.vals.2 0 r rfl
  have e2 : Value.slice A n c = .slice A' r.length c' := Option.some.inj e1
  injection e2 with e3 _ e4
  subst e3 e4
  exact ⟨hb.bytes, h1, h2⟩
set_option maxRecDepth 20000 in
set_option maxHeartbeats 8000000 in
theorem hwrite_st {g : Nat} {A : Option Addr} {c : Nat} {m : List UInt8} (h : St W0 (Hashed g A c m L) W) (hG : Glob W0) {B : Option Addr} {cb : Nat} {b : List UInt8} (hb : ∀ X, St W0 L X → BytesIn X B b) (hbc : b.length ≤ cb) (hcb : cb ≤ maxLen) (hmb : m.length + b.length ≤ 1000000000000) :
    Calls Tryd.prog 26 #[.pointer (some ⟨g, 0, none⟩), .slice B b.length cb] W fun x w' => x = .returned (.tuple #[]) ∧ ∃ A' c', St W0 (Hashed g A' c' (m ++ b) L) w' := by
  obtain ⟨r, hr⟩ : ∃ r, r = restOf m := ⟨_, rfl⟩
  obtain ⟨ws, hws⟩ : ∃ ws, ws = wordsOf m := ⟨_, rfl⟩
  have HW8 := hid (show ws.length = 8 by rw [hws]; exact wordsOf_len m)
  have hrl : r.length < 64 := by rw [hr, restOf_len]; omega
  have HMW := hid (show wordsOf (m ++ b) = absorbTo ws (r ++ b) ((r ++ b).length / 64) by rw [hws, hr]; exact wordsOf_more m b)
  have HMR := hid (show restOf (m ++ b) = (r ++ b).drop (64 * ((r ++ b).length / 64)) by rw [hr]; exact restOf_more m b)
  have HH := hid (show St W0 (Blk g (hashV ws (.slice A r.length c) m.length) 83 :: Vals [.slice A r.length c] [r] :: L) W from by rw [hws, hr]; exact h)
  obtain ⟨hrb, hrc, hrm⟩ := vals_one HH.out.at2 rfl
  have HRB := hid (show ∀ X M, St W0 (Vals [.slice A r.length c] [r] :: M) X → BytesIn X A r from fun X M hX => (vals_one hX rfl).1)
  have HB := hid hb
  have HG := hid hG
  obtain ⟨i5, hi, hiz, his, hib⟩ := info_parts info5
  have HI := hid (And.intro hi (And.intro hiz (And.intro his hib)))
  obtain ⟨n1, hn1⟩ : ∃ n, n = m.length := ⟨_, rfl⟩
  obtain ⟨n2, hn2⟩ : ∃ n, n = n1 + b.length := ⟨_, rfl⟩
  have HN := hid (show (m ++ b).length = n2 by rw [List.length_append, hn2, hn1])
  rw [← hn1] at HH
  have y9 : W.cell? ⟨g, 9, none⟩ = some (.int .i64 n1) := (cell_of_row W g 9 _ _ _ HH.out.blk).trans (hashV_n HW8.out _ _)
  have f9 := frozen_of_row W g 9 _ _ HH.out.blk
  have hcbi : (r.length : Int) ≤ (c : Int) := by omega
  have HN2 := hid hn2
  unfold maxLen at hcb hrm
  clear h hb hG hi hiz his hib hr hws hrb hn1
  have hnn : (n1 : Int) + (b.length : Int) = (n2 : Int) := by omega
  have hn2b : n2 ≤ 1000000000000 := by have := HN.out; rw [List.length_append] at this; omega
  clear hn2
  obtain ⟨all, hall⟩ : ∃ all, all = r ++ b := ⟨_, rfl⟩
  obtain ⟨na, hna⟩ : ∃ n, n = (r ++ b).length := ⟨_, rfl⟩
  have HNA := hid (show na = all.length by rw [hna, hall])
  have HNB := hid hna
  have HAL := hid (show all.length ≤ 1000000000100 by rw [hall, List.length_append]; have := HN2.out; omega)
  rw [← hall] at HMW HMR
  have HALL := hid hall
  clear hall hna
  go_enter Tryd.func26, Tryd.ntmps26
  go_upto_region 2 with fail
  have h1 := HH.out.setCell 9 (.int .i64 n2)
  rw [hashV_set9 HW8.out] at h1
  have H1 := hid h1
  clear h1 y9 f9 HH
  obtain ⟨X1, hX1⟩ : ∃ X1, X1 = W.setCell ⟨g, 9, none⟩ (.int .i64 n2) := ⟨_, rfl⟩
  rw [← hX1] at H1 ⊢
  clear hX1
  have HC := hid (show ∀ X, St W0 (Blk g (hashV ws (.slice A r.length c) n2) 83 :: Vals [.slice A r.length c] [r] :: L) X → X.cell? ⟨g, 8, none⟩ = some (.slice A r.length c) from fun X hX => (cell_of_row X g 8 _ _ _ hX.blk).trans (hashV_rest HW8.out _ _))
  refine wp_region_ord [16, 17] [(0, 1), (1, 1), (2, 1), (3, 1), (4, 1), (5, 1), (6, 1), (7, 1), (8, 1), (9, 1), (10, 1), (11, 1), (12, 1), (13, 1), (14, 1), (15, 1), (16, 2), (17, 0)] (fun X => St W0 (Blk g (hashV ws (.slice A r.length c) n2) 83 :: Vals [.slice A r.length c] [r] :: L) X) (by kernel_rfl) (by kernel_rfl) (fun d _ c _ _ h => by cases d <;> exact h) (H1.out.turn (Below.drew (Below.refl _ _))) (fun X hXe hX => ?_)
  clear hXe H1
  repeat (apply wpOrd_class; ((· first | (rw [List.getElem?_toArray, List.getElem?_cons_zero]; done) | (simp only [List.getElem?_toArray, List.getElem?_cons_succ, List.getElem?_cons_zero]; exact rfl))); (· exact rfl); intro K hK; apply Exists.intro; refine And.intro (fun X' hX' => ?_) ?_; (· have hq := HC.out _ hX'; clear hX'; go_simp; (try go_bits); first | done | exact rfl | exact ⟨rfl, rfl⟩); go_simp; refine hK _ _ ?_; clear hK K)
  (apply wpOrd_comes; ((· first | (rw [List.getElem?_toArray, List.getElem?_cons_zero]; done) | (simp only [List.getElem?_toArray, List.getElem?_cons_succ, List.getElem?_cons_zero]; exact rfl))); intro N hN)
  go_wp2_with (refine wpList_append_full _ _ 40 rfl A r rfl B cb b rfl rfl 5 i5 Tryd.underlying40 HI.out.1 HI.out.2.1 HI.out.2.2.1 HI.out.2.2.2 (HRB.out X _ hX.at2) (HB.out X hX.drop.drop) (by omega) na HNB.out ?_; intro A2 c2 X2 hk)
  have H2 := hid (hk _ _ c hrc (by unfold maxLen; omega) hX.at2).at2
  rw [← HALL.out] at H2
  clear hk hX
  refine hN _ _ (fun h => by cases h) ?_
  clear hN N
  (apply wpOrd_pure; ((· first | (rw [List.getElem?_toArray, List.getElem?_cons_zero]; done) | (simp only [List.getElem?_toArray, List.getElem?_cons_succ, List.getElem?_cons_zero]; exact rfl))); (· exact rfl); intro K hK; apply Exists.intro; refine And.intro (fun X' => ?_) ?_; (· go_simp; (try go_bits); first | done | exact rfl | exact ⟨rfl, rfl⟩); go_simp; refine hK _ _ ?_; clear hK K)
  refine wpOrd_done ?_
  have HV2 := hid (vals_one H2.out.at2 HNA.out)
  go_wp2_with fail
  go_loopw [4] (fun v X => ∃ (i : Nat) (B' : Option Addr) (c' : Nat) (rr : List UInt8), 64 * i ≤ all.length ∧ v = .slice B' rr.length c' ∧ rr.length ≤ c' ∧ c' ≤ maxLen ∧ Hid (rr = all.drop (64 * i)) ∧ Hid (∀ X M, St W0 (Vals [.slice A2 na c2] [all] :: M) X → BytesIn X B' rr) ∧
    Hid (St W0 (Blk g (hashV (absorbTo ws all i) (.slice A r.length c) n2) 83 :: Vals [.slice A2 na c2] [all] :: L) X)) (fun v _ => lenOf v)
  case atStart => exact ⟨0, A2, c2, all, Nat.zero_le _, by rw [HNA.out], HV2.out.2.1, HV2.out.2.2, hid rfl, hid (fun X M hX => (vals_one hX HNA.out).1), H2⟩
  case round =>
    clear H2 HV2
    obtain ⟨i, B', c', rr, hi, rfl, hrr1, hrr2, HRR, HBR, HS⟩ := hrel
    have HWI := hid (absorbTo_len HW8.out all i)
    have HRL := hid (show rr.length = all.length - 64 * i by rw [HRR.out, List.length_drop])
    unfold maxLen at hrr2
    by_cases h64 : 64 ≤ rr.length
    · have e1 : (64 : Int) ≤ (rr.length : Int) := by omega
      have e2 : (64 : Int) ≤ (c' : Int) := by omega
      have e3 : 64 ≤ c' := by omega
      obtain ⟨b0, hb0⟩ : ∃ b, rr[0]? = some b := ⟨_, List.getElem?_eq_getElem (by omega)⟩
      obtain ⟨gb, ob, rfl, _, _⟩ := HBR.out wr _ HS.out.at2 0 b0 hb0
      have HTK := hid (show rr.take 64 = (all.drop (64 * i)).take 64 by rw [HRR.out])
      have htl : (rr.take 64).length = 64 := by rw [List.length_take]; omega
      obtain ⟨wn, hwn⟩ : ∃ wn, wn = absorbTo ws all (i + 1) := ⟨_, rfl⟩
      have HPR := hid (show ∀ X, St W0 (Blk g (hashV (absorbTo ws all i) (.slice A r.length c) n2) 83 :: Vals [.slice A2 na c2] [all] :: L) X → Calls Tryd.prog 33 #[.agg (w32 (absorbTo ws all i)), .slice (some ⟨gb, ob, none⟩) 64 c'] X fun x w' => x = .returned (.agg (w32 wn)) ∧ Below X.heap.size X w' from fun X hX => by
        have := press_ok (h := absorbTo ws all i) (n := 64) (c := c') HWI.out (HG.out.below hX.below HG.out.two) ((HBR.out X _ hX.at2).take 64) (by omega) htl e3 (by unfold maxLen; omega)
        rw [hwn, absorbTo, ← HTK.out]
        exact this)
      have HW9 := hid (show wn.length = 8 by rw [hwn]; exact absorbTo_len HW8.out all (i + 1))
      have HWN := hid hwn
      have HWS := hid ((w32_size wn).trans HW9.out)
      have HLD := hid (show ∀ X, St W0 (Blk g (hashV (absorbTo ws all i) (.slice A r.length c) n2) 83 :: Vals [.slice A2 na c2] [all] :: L) X → (loadK 81 (.pointer (some ⟨g, 0, none⟩))).run Tryd.prog X = .ok (.value (.agg (w32 (absorbTo ws all i)))) X from fun X hX => run_loadK hX.blk Tryd.underlying81 rfl size8w ((w32_size _).trans HWI.out) (fun j hj => by
        rw [w32_size, HWI.out] at hj
        rw [Nat.zero_add]
        exact hashV_word HWI.out _ _ hj))
      have HBN := hid (show ∀ X M, St W0 (Vals [.slice A2 na c2] [all] :: M) X → BytesIn X (if c' = 64 then some ⟨gb, ob, none⟩ else some ⟨gb, ob + 64, none⟩) (rr.drop 64) from fun X M hX => by
        by_cases hc : c' = 64
        · rw [List.drop_of_length_le (by omega)]
          intro k b hk; cases hk
        · rw [if_neg hc]
          exact (HBR.out X M hX).shift 64)
      clear hb0 htl hwn
      go_wp2_with fail
      refine wp_region_ord [10] [(0, 1), (1, 1), (2, 1), (3, 1), (4, 1), (5, 1), (6, 1), (7, 2), (8, 1), (9, 1), (10, 2)] (fun X => St W0 (Blk g (hashV (absorbTo ws all i) (.slice A r.length c) n2) 83 :: Vals [.slice A2 na c2] [all] :: L) X) (by kernel_rfl) (by kernel_rfl) (fun d _ c _ _ h => by cases d <;> exact h) (HS.out.turn (Below.drew (Below.refl _ _))) (fun X hXe hX => ?_)
      clear hXe HS
      repeat (apply wpOrd_class; ((· first | (rw [List.getElem?_toArray, List.getElem?_cons_zero]; done) | (simp only [List.getElem?_toArray, List.getElem?_cons_succ, List.getElem?_cons_zero]; exact rfl))); (· exact rfl); intro K hK; apply Exists.intro; refine And.intro (fun X' hX' => ?_) ?_; (· have hq := HLD.out _ hX'; clear hX'; go_simp; (try go_bits); first | done | exact rfl | exact ⟨rfl, rfl⟩); go_simp; refine hK _ _ ?_; clear hK K)
      (apply wpOrd_comes; ((· first | (rw [List.getElem?_toArray, List.getElem?_cons_zero]; done) | (simp only [List.getElem?_toArray, List.getElem?_cons_succ, List.getElem?_cons_zero]; exact rfl))); intro N hN)
      go_wp2_with (go_at_call 33; (with_reducible refine (HPR.out _ hX).mono ?_); rintro v X3 ⟨rfl, hb⟩; have hX3 := hX.turn hb; clear hb)
      refine hN _ _ (fun _ => hX3) ?_
      clear hN N hX
      repeat (apply wpOrd_class; ((· first | (rw [List.getElem?_toArray, List.getElem?_cons_zero]; done) | (simp only [List.getElem?_toArray, List.getElem?_cons_succ, List.getElem?_cons_zero]; exact rfl))); (· exact rfl); intro K hK; apply Exists.intro; refine And.intro (fun X' hX' => ?_) ?_; (· have hq := HLD.out _ hX'; clear hX'; go_simp; (try go_bits); first | done | exact rfl | exact ⟨rfl, rfl⟩); go_simp; refine hK _ _ ?_; clear hK K)
      (apply wpOrd_comes; ((· first | (rw [List.getElem?_toArray, List.getElem?_cons_zero]; done) | (simp only [List.getElem?_toArray, List.getElem?_cons_succ, List.getElem?_cons_zero]; exact rfl))); intro N hN)
      go_wp2_with (refine wpList_store_part 81 _ _ rfl g 0 rfl rfl (.agg (w32 wn)) rfl 8 size8w HWS.out (w32_one _) 83 _ hX3.blk (by rw [hashV_size HWI.out]; omega) ?_; intro X4 hB hT hs)
      rw [show (Value.agg (w32 wn)).cells.toList = (w32 wn).toList from rfl, hashV_put HWI.out HW9.out, HWN.out] at hB
      have H4 := hid (hX3.put hB hT)
      clear hB hT hs hX3
      refine hN _ _ (fun h => by cases h) ?_
      clear hN N
      refine wpOrd_done ?_
      go_wp2_with fail
      go_roundw
      case rel => exact ⟨i + 1, if c' = 64 then some ⟨gb, ob, none⟩ else some ⟨gb, ob + 64, none⟩, c' - 64, rr.drop 64, by have := HRL.out; omega, by rw [List.length_drop], by rw [List.length_drop]; omega, by unfold maxLen; omega, hid (by rw [HRR.out, List.drop_drop]; congr 1), HBN, H4⟩
      case measure => simp [lenOf]; omega
    · have e1 : ¬ (64 : Int) ≤ (rr.length : Int) := by omega
      have hie : all.length / 64 = i := by have := HRL.out; omega
      rw [hie] at HMW HMR
      rw [← HRR.out] at HMR
      have hrr4 : 0 + rr.length ≤ 140737488355328 := by omega
      have HBX := hid (HBR.out)
      clear hie
      go_wp2_with (first | (refine wpList_buildSlice0 rfl rfl Tryd.underlying40 be5.size ?_; intro gs X12 hS hgs hges hX12; have H5 := hid (HS.out.newRow0 (e := 5) (s := 1) hX12 hges hS); clear hS hgs hges hX12) | (refine wpList_append_bytes _ _ 40 rfl (.slice (some ⟨gs, 0, none⟩) 0 0) rfl B' c' rr rfl rfl 5 i5 Tryd.underlying40 HI.out.1 HI.out.2.1 HI.out.2.2.1 HI.out.2.2.2 0 [] H5.out.row (HBX.out _ _ H5.out.at3) hrr4 ?_; intro v' X3 hO hT hfr; have H6 := hid (show St W0 (Row v' 5 1 rr.length (bvL rr) :: Blk g (hashV (absorbTo ws all i) (.slice A r.length c) n2) 83 :: Vals [.slice A2 na c2] [all] :: L) X3 from (by have := H5.out.grow hO hT hfr; rw [Nat.zero_add, List.nil_append] at this; exact this)); clear hO hT hfr; obtain ⟨A3, c3, rfl, hc3⟩ := row_slice H6.out; have HC3 := hid hc3; clear hc3; have y8 := (cell_of_row X3 g 8 _ _ _ H6.out.at2.blk).trans (hashV_rest HWI.out _ _); have f8 := frozen_of_row X3 g 8 _ _ H6.out.at2.blk))
      refine bodyPost_end (results_none rfl _ _ _) rfl ⟨rfl, A3, c3, ?_⟩
      have h7 := H6.out.at2.setCell 8 (.slice A3 rr.length c3)
      rw [hashV_set8 HWI.out] at h7
      have h8 := (h7.at2.row_val rfl).at3.drop
      show St W0 (Blk g (hashV (wordsOf (m ++ b)) (.slice A3 (restOf (m ++ b)).length c3) (m ++ b).length) 83 :: Vals [.slice A3 (restOf (m ++ b)).length c3] [restOf (m ++ b)] :: L) _
      rw [HMW.out, HMR.out, HN.out]
      exact h8.at2
end
end Go.Proofs.YthmchbdhikakhaaDoor
