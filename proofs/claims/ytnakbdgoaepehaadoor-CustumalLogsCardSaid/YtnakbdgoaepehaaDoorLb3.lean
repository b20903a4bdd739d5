/- Part 3 of the texts below this law, put together: what each holds is said at its head. -/
import Derived.Test.YtnakbdgoaepehaaDoorLb2
import Derived.Lib.SlBytesConst
import Derived.Laws.MakeOwn
import Derived.Laws.BitsAllLaws
/- New and Write of a sum. -/
namespace Go.Cu
open Go Go.RowKit
theorem wpList_append_full {P : Program} {ops : Array Oper} {rest : List Oper} {o : Oper} {a : Act} {w : World} {Q : Exit → Act → World → Prop} (s x : Operand) (t : TypeId)
    (ho : o.op = .call { callee := .builtin .append, args := #[s, x], argTypes := #[t, t] }) (A : Option Addr) (r : List UInt8) (hs : a.eval s = .slice A r.length r.length) (B : Option Addr) (c : Nat) (b : List UInt8) (hx : a.eval x = .slice B b.length c) (hw : Region.wanted o (yielded ops a.tmps) = true)
    (e : TypeId) (i : TypeInfo) (ht : P.underlying t = some (.slice e)) (hi : P.info? e = some i) (hz : i.zero = some (.int .u8 0)) (hsize : i.size = 1) (hby : i.bytes = 1)
    (hr : BytesIn w A r) (hb : BytesIn w B b) (h63 : r.length + b.length ≤ 140737488355328) (n : Nat) (hn : n = (r ++ b).length)
    (h : ∀ A' c' w', (∀ W0 L c0, r.length ≤ c0 → c0 ≤ maxLen → St W0 (Vals [.slice A r.length c0] [r] :: L) w → St W0 (Vals [.slice A' n c'] [r ++ b] :: L) w') → wpList P ops Q rest (a.put o.dst (.slice A' n c')) w') : wpList P ops Q (o :: rest) a w := by
  subst hn
  refine wpList_wanted hw fun K hK => ?_
  obtain ⟨A', c', w', hrun, hk⟩ := run_append_full (P := P) (w := w) t o.type e i ht hi hz hsize hby A r hr B c b hb h63
  unfold Oper.wp execOp
  simp only [ho, resolve, invoke, builtin, Sem.run_bind, Sem.run_pure, Result.andThen_ok, List.map_toArray, List.map_cons, List.map_nil, hs, hx, hrun]
  exact hK _ _ (h A' c' w' hk)
end Go.Cu
namespace Go.Proofs.YtnakbdgoaepehaaDoor
open Go.RowKit Go.Cu
@[go_sem ↓] theorem bdktHASH (a : Act) (dst : Option Tmp) (ps : Array (Nat × Operand)) (ty : TypeId) (pos : String) (after : Array Edge) (guard : Option (Nat × Bool)) :
    execOp a.eval { dst, op := .build 111 ps, type := ty, pos, after, guard } = buildK 111 (ps.map fun (i, x) => (i, a.eval x)) := rfl
set_option maxRecDepth 20000 in
theorem buildHash (W : World) : (Instr.build 111 #[(0, .agg (w32 startL))]).run Tryd.prog W = .ok (.agg (hashV startL (.slice none 0 0) 0)) W := by kernel_rfl
section
variable {W0 W : World} {L : List Atm}
/-- A sum that goes on, behind a message. -/
abbrev Hashed (g : Nat) (A : Option Addr) (c : Nat) (m : List UInt8) (L : List Atm) : List Atm := Blk g (hashV (wordsOf m) (.slice A (restOf m).length c) m.length) 111 :: Vals [.slice A (restOf m).length c] [restOf m] :: L
theorem hnew_st (h : St W0 L W) (hG : Glob W0) : Calls Tryd.prog 38 #[] W fun r w' => ∃ g, r = .returned (.pointer (some ⟨g, 0, none⟩)) ∧ St W0 (Hashed g none 0 [] L) w' := by
  have HH := hid h
  obtain ⟨t0, f0, _, _, h0, _⟩ := hG.below h.below hG.two
  have LG : (loadK 109 (.pointer (some ⟨1, 0, none⟩))).run Tryd.prog W = .ok (.value (.agg (w32 startL))) W := run_loadK_box h0 Tryd.underlying109 rfl size8w rfl
  have BB := fun W => run_buildK (buildHash W)
  clear h hG h0
  go_enter Tryd.func38, Tryd.ntmps38
  go_wp2_with (refine wpList_box rfl 111 _ rfl (.agg (hashV startL (.slice none 0 0) 0)) rfl ?_; intro gh W1 h1 hl1 hg1 hW1; have H1 := hid (HH.out.newBlk hW1 hg1 h1); clear h1 hl1 hg1 hW1)
  go_ret
  refine ⟨gh, rfl, ?_⟩
  have h2 : St W0 (Vals [.slice none 0 0] [[]] :: Blk gh (hashV startL (.slice none 0 0) 0) 111 :: L) W1 := H1.out.push (Below.refl _ _) ⟨rfl, fun i r hi => by
    match i with
    | i + 1 => cases hi
    | 0 =>
      obtain rfl : [] = r := by simpa using hi
      exact ⟨none, 0, rfl, Nat.le_refl _, Nat.zero_le _, fun k b hb => by cases hb⟩⟩
  exact h2.at2
theorem vals_one {A : Option Addr} {c n : Nat} {r : List UInt8} {X : World} (h : St W0 (Vals [.slice A n c] [r] :: L) X) (_hn : n = r.length) : BytesIn X A r ∧ r.length ≤ c ∧ c ≤ maxLen := by
  obtain ⟨A', c', e1, h1, h2, hb⟩ := h.vals.2 0 r rfl
  have e2 : Value.slice A n c = .slice A' r.length c' := Option.some.inj e1
  injection e2 with e3 _ e4
  subst e3 e4
  exact ⟨hb.bytes, h1, h2⟩
set_option maxRecDepth 20000 in
set_option maxHeartbeats 8000000 in
theorem hwrite_st {g : Nat} {A : Option Addr} {c : Nat} {m : List UInt8} (h : St W0 (Hashed g A c m L) W) (hG : Glob W0) {B : Option Addr} {cb : Nat} {b : List UInt8} (hb : ∀ X, St W0 L X → BytesIn X B b) (hbc : b.length ≤ cb) (hcb : cb ≤ maxLen) (hmb : m.length + b.length ≤ 1000000000000) :
    Calls Tryd.prog 39 #[.pointer (some ⟨g, 0, none⟩), .slice B b.length cb] W fun x w' => x = .returned (.tuple #[]) ∧ ∃ A' c', St W0 (Hashed g A' c' (m ++ b) L) w' := by
  obtain ⟨r, hr⟩ : ∃ r, r = restOf m := ⟨_, rfl⟩
  obtain ⟨ws, hws⟩ : ∃ ws, ws = wordsOf m := ⟨_, rfl⟩
  have HW8 := hid (show ws.length = 8 by rw [hws]; exact wordsOf_len m)
  have hrl : r.length < 64 := by rw [hr, restOf_len]; omega
  have HMW := hid (show wordsOf (m ++ b) = absorbTo ws (r ++ b) ((r ++ b).length / 64) by rw [hws, hr]; exact wordsOf_more m b)
  have HMR := hid (show restOf (m ++ b) = (r ++ b).drop (64 * ((r ++ b).length / 64)) by rw [hr]; exact restOf_more m b)
  have HH := hid (show St W0 (Blk g (hashV ws (.slice A r.length c) m.length) 111 :: Vals [.slice A r.length c] [r] :: L) W from by rw [hws, hr]; exact h)
  obtain ⟨hrb, hrc, hrm⟩ := vals_one HH.out.at2 rfl
  have HRB := hid (show ∀ X M, St W0 (Vals [.slice A r.length c] [r] :: M) X → BytesIn X A r from fun X M hX => (vals_one hX rfl).1)
  have HB := hid hb
  have HG := hid hG
  obtain ⟨i5, hi, hiz, his, hib⟩ := info_parts info5
  have HI := hid (And.intro hi (And.intro hiz (And.intro his hib)))
  obtain ⟨n1, hn1⟩ : ∃ n, n = m.length := ⟨_, rfl⟩
  obtain ⟨n2, hn2⟩ : ∃ n, n = n1 + b.length := ⟨_, rfl⟩
  have HN := hid (show (m ++ b).length = n2 by rw [List.length_append, hn2, hn1])
  rw [← hn1] at HH
  have y9 : W.cell? ⟨g, 9, none⟩ = some (.int .i64 n1) := (cell_of_row W g 9 _ _ _ HH.out.blk).trans (hashV_n HW8.out _ _)
  have f9 := frozen_of_row W g 9 _ _ HH.out.blk
  have hcbi : (r.length : Int) ≤ (c : Int) := by omega
  have HN2 := hid hn2
  unfold maxLen at hcb hrm
  clear h hb hG hi hiz his hib hr hws hrb hn1
  have hnn : (n1 : Int) + (b.length : Int) = (n2 : Int) := by omega
  have hn2b : n2 ≤ 1000000000000 := by have := HN.out; rw [List.length_append] at this; omega
  clear hn2
  obtain ⟨all, hall⟩ : ∃ all, all = r ++ b := ⟨_, rfl⟩
  obtain ⟨na, hna⟩ : ∃ n, n = (r ++ b).length := ⟨_, rfl⟩
  have HNA := hid (show na = all.length by rw [hna, hall])
  have HNB := hid hna
  have HAL := hid (show all.length ≤ 1000000000100 by rw [hall, List.length_append]; have := HN2.out; omega)
  rw [← hall] at HMW HMR
  have HALL := hid hall
  clear hall hna
  go_enter Tryd.func39, Tryd.ntmps39
  go_upto_region 2 with fail
  have h1 := HH.out.setCell 9 (.int .i64 n2)
  rw [hashV_set9 HW8.out] at h1
  have H1 := hid h1
  clear h1 y9 f9 HH
  obtain ⟨X1, hX1⟩ : ∃ X1, X1 = W.setCell ⟨g, 9, none⟩ (.int .i64 n2) := ⟨_, rfl⟩
  rw [← hX1] at H1 ⊢
  clear hX1
  have HC := hid (show ∀ X, St W0 (Blk g (hashV ws (.slice A r.length c) n2) 111 :: Vals [.slice A r.length c] [r] :: L) X → X.cell? ⟨g, 8, none⟩ = some (.slice A r.length c) from fun X hX => (cell_of_row X g 8 _ _ _ hX.blk).trans (hashV_rest HW8.out _ _))
  refine wp_region_ord [16, 17] [(0, 1), (1, 1), (2, 1), (3, 1), (4, 1), (5, 1), (6, 1), (7, 1), (8, 1), (9, 1), (10, 1), (11, 1), (12, 1), (13, 1), (14, 1), (15, 1), (16, 2), (17, 0)] (fun X => St W0 (Blk g (hashV ws (.slice A r.length c) n2) 111 :: Vals [.slice A r.length c] [r] :: L) X) (by kernel_rfl) (by kernel_rfl) (fun d _ c _ _ h => by cases d <;> exact h) (H1.out.turn (Below.drew (Below.refl _ _))) (fun X hXe hX => ?_)
  clear hXe H1
  repeat (apply wpOrd_class; ((· first | (rw [List.getElem?_toArray, List.getElem?_cons_zero]; done) | (simp only [List.getElem?_toArray, List.getElem?_cons_succ, List.getElem?_cons_zero]; exact rfl))); (· exact rfl); intro K hK; apply Exists.intro; refine And.intro (fun X' hX' => ?_) ?_; (· have hq := HC.out _ hX'; clear hX'; go_simp; (try go_bits); first | done | exact rfl | exact ⟨rfl, rfl⟩); go_simp; refine hK _ _ ?_; clear hK K)
  (apply wpOrd_comes; ((· first | (rw [List.getElem?_toArray, List.getElem?_cons_zero]; done) | (simp only [List.getElem?_toArray, List.getElem?_cons_succ, List.getElem?_cons_zero]; exact rfl))); intro N hN)
  go_wp2_with (refine wpList_append_full _ _ 42 rfl A r rfl B cb b rfl rfl 5 i5 Tryd.underlying42 HI.out.1 HI.out.2.1 HI.out.2.2.1 HI.out.2.2.2 (HRB.out X _ hX.at2) (HB.out X hX.drop.drop) (by omega) na HNB.out ?_; intro A2 c2 X2 hk)
  have H2 := hid (hk _ _ c hrc (by unfold maxLen; omega) hX.at2).at2
  rw [← HALL.out] at H2
  clear hk hX
  refine hN _ _ (fun h => by cases h) ?_
  clear hN N
  (apply wpOrd_pure; ((· first | (rw [List.getElem?_toArray, List.getElem?_cons_zero]; done) | (simp only [List.getElem?_toArray, List.getElem?_cons_succ, List.getElem?_cons_zero]; exact rfl))); (· exact rfl); intro K hK; apply Exists.intro; refine And.intro (fun X' => ?_) ?_; (· go_simp; (try go_bits); first | done | exact rfl | exact ⟨rfl, rfl⟩); go_simp; refine hK _ _ ?_; clear hK K)
  refine wpOrd_done ?_
  have HV2 := hid (vals_one H2.out.at2 HNA.out)
  go_wp2_with fail
  go_loopw [4] (fun v X => ∃ (i : Nat) (B' : Option Addr) (c' : Nat) (rr : List UInt8), 64 * i ≤ all.length ∧ v = .slice B' rr.length c' ∧ rr.length ≤ c' ∧ c' ≤ maxLen ∧ Hid (rr = all.drop (64 * i)) ∧ Hid (∀ X M, St W0 (Vals [.slice A2 na c2] [all] :: M) X → BytesIn X B' rr) ∧
    Hid (St W0 (Blk g (hashV (absorbTo ws all i) (.slice A r.length c) n2) 111 :: Vals [.slice A2 na c2] [all] :: L) X)) (fun v _ => lenOf v)
  case atStart => exact ⟨0, A2, c2, all, Nat.zero_le _, by rw [HNA.out], HV2.out.2.1, HV2.out.2.2, hid rfl, hid (fun X M hX => (vals_one hX HNA.out).1), H2⟩
  case round =>
    clear H2 HV2
    obtain ⟨i, B', c', rr, hi, rfl, hrr1, hrr2, HRR, HBR, HS⟩ := hrel
    have HWI := hid (absorbTo_len HW8.out all i)
    have HRL := hid (show rr.length = all.length - 64 * i by rw [HRR.out, List.length_drop])
    unfold maxLen at hrr2
    by_cases h64 : 64 ≤ rr.length
    · have e1 : (64 : Int) ≤ (rr.length : Int) := by omega
      have e2 : (64 : Int) ≤ (c' : Int) := by omega
      have e3 : 64 ≤ c' := by omega
      obtain ⟨b0, hb0⟩ : ∃ b, rr[0]? = some b := ⟨_, List.getElem?_eq_getElem (by omega)⟩
      obtain ⟨gb, ob, rfl, _, _⟩ := HBR.out wr _ HS.out.at2 0 b0 hb0
      have HTK := hid (show rr.take 64 = (all.drop (64 * i)).take 64 by rw [HRR.out])
      have htl : (rr.take 64).length = 64 := by rw [List.length_take]; omega
      obtain ⟨wn, hwn⟩ : ∃ wn, wn = absorbTo ws all (i + 1) := ⟨_, rfl⟩
      have HPR := hid (show ∀ X, St W0 (Blk g (hashV (absorbTo ws all i) (.slice A r.length c) n2) 111 :: Vals [.slice A2 na c2] [all] :: L) X → Calls Tryd.prog 61 #[.agg (w32 (absorbTo ws all i)), .slice (some ⟨gb, ob, none⟩) 64 c'] X fun x w' => x = .returned (.agg (w32 wn)) ∧ Below X.heap.size X w' from fun X hX => by
        have := press_ok (h := absorbTo ws all i) (n := 64) (c := c') HWI.out (HG.out.below hX.below HG.out.two) ((HBR.out X _ hX.at2).take 64) (by omega) htl e3 (by unfold maxLen; omega)
        rw [hwn, absorbTo, ← HTK.out]
        exact this)
      have HW9 := hid (show wn.length = 8 by rw [hwn]; exact absorbTo_len HW8.out all (i + 1))
      have HWN := hid hwn
      have HWS := hid ((w32_size wn).trans HW9.out)
      have HLD := hid (show ∀ X, St W0 (Blk g (hashV (absorbTo ws all i) (.slice A r.length c) n2) 111 :: Vals [.slice A2 na c2] [all] :: L) X → (loadK 109 (.pointer (some ⟨g, 0, none⟩))).run Tryd.prog X = .ok (.value (.agg (w32 (absorbTo ws all i)))) X from fun X hX => run_loadK hX.blk Tryd.underlying109 rfl size8w ((w32_size _).trans HWI.out) (fun j hj => by
        rw [w32_size, HWI.out] at hj
        rw [Nat.zero_add]
        exact hashV_word HWI.out _ _ hj))
      have HBN := hid (show ∀ X M, St W0 (Vals [.slice A2 na c2] [all] :: M) X → BytesIn X (if c' = 64 then some ⟨gb, ob, none⟩ else some ⟨gb, ob + 64, none⟩) (rr.drop 64) from fun X M hX => by
        by_cases hc : c' = 64
        · rw [List.drop_of_length_le (by omega)]
          intro k b hk; cases hk
        · rw [if_neg hc]
          exact (HBR.out X M hX).shift 64)
      clear hb0 htl hwn
      go_wp2_with fail
      refine wp_region_ord [10] [(0, 1), (1, 1), (2, 1), (3, 1), (4, 1), (5, 1), (6, 1), (7, 2), (8, 1), (9, 1), (10, 2)] (fun X => St W0 (Blk g (hashV (absorbTo ws all i) (.slice A r.length c) n2) 111 :: Vals [.slice A2 na c2] [all] :: L) X) (by kernel_rfl) (by kernel_rfl) (fun d _ c _ _ h => by cases d <;> exact h) (HS.out.turn (Below.drew (Below.refl _ _))) (fun X hXe hX => ?_)
      clear hXe HS
      repeat (apply wpOrd_class; ((· first | (rw [List.getElem?_toArray, List.getElem?_cons_zero]; done) | (simp only [List.getElem?_toArray, List.getElem?_cons_succ, List.getElem?_cons_zero]; exact rfl))); (· exact rfl); intro K hK; apply Exists.intro; refine And.intro (fun X' hX' => ?_) ?_; (· have hq := HLD.out _ hX'; clear hX'; go_simp; (try go_bits); first | done | exact rfl | exact ⟨rfl, rfl⟩); go_simp; refine hK _ _ ?_; clear hK K)
      (apply wpOrd_comes; ((· first | (rw [List.getElem?_toArray, List.getElem?_cons_zero]; done) | (simp only [List.getElem?_toArray, List.getElem?_cons_succ, List.getElem?_cons_zero]; exact rfl))); intro N hN)
      go_wp2_with (go_at_call 61; (with_reducible refine (HPR.out _ hX).mono ?_); rintro v X3 ⟨rfl, hb⟩; have hX3 := hX.turn hb; clear hb)
      refine hN _ _ (fun _ => hX3) ?_
      clear hN N hX
      repeat (apply wpOrd_class; ((· first | (rw [List.getElem?_toArray, List.getElem?_cons_zero]; done) | (simp only [List.getElem?_toArray, List.getElem?_cons_succ, List.getElem?_cons_zero]; exact rfl))); (· exact rfl); intro K hK; apply Exists.intro; refine And.intro (fun X' hX' => ?_) ?_; (· have hq := HLD.out _ hX'; clear hX'; go_simp; (try go_bits); first | done | exact rfl | exact ⟨rfl, rfl⟩); go_simp; refine hK _ _ ?_; clear hK K)
      (apply wpOrd_comes; ((· first | (rw [List.getElem?_toArray, List.getElem?_cons_zero]; done) | (simp only [List.getElem?_toArray, List.getElem?_cons_succ, List.getElem?_cons_zero]; exact rfl))); intro N hN)
      go_wp2_with (refine wpList_store_part 109 _ _ rfl g 0 rfl rfl (.agg (w32 wn)) rfl 8 size8w HWS.out (w32_one _) 111 _ hX3.blk (by rw [hashV_size HWI.out]; omega) ?_; intro X4 hB hT hs)
      rw [show (Value.agg (w32 wn)).cells.toList = (w32 wn).toList from rfl, hashV_put HWI.out HW9.out, HWN.out] at hB
      have H4 := hid (hX3.put hB hT)
      clear hB hT hs hX3
      refine hN _ _ (fun h => by cases h) ?_
      clear hN N
      refine wpOrd_done ?_
      go_wp2_with fail
      go_roundw
      case rel => exact ⟨i + 1, if c' = 64 then some ⟨gb, ob, none⟩ else some ⟨gb, ob + 64, none⟩, c' - 64, rr.drop 64, by have := HRL.out; omega, by rw [List.length_drop], by rw [List.length_drop]; omega, by unfold maxLen; omega, hid (by rw [HRR.out, List.drop_drop]; congr 1), HBN, H4⟩
      case measure => simp [lenOf]; omega
    · have e1 : ¬ (64 : Int) ≤ (rr.length : Int) := by omega
      have hie : all.length / 64 = i := by have := HRL.out; omega
      rw [hie] at HMW HMR
      rw [← HRR.out] at HMR
      have hrr4 : 0 + rr.length ≤ 140737488355328 := by omega
      have HBX := hid (HBR.out)
      clear hie
      go_wp2_with (first | (refine wpList_buildSlice0 rfl rfl Tryd.underlying42 be5.size ?_; intro gs X12 hS hgs hges hX12; have H5 := hid (HS.out.newRow0 (e := 5) (s := 1) hX12 hges hS); clear hS hgs hges hX12) | (refine wpList_append_bytes _ _ 42 rfl (.slice (some ⟨gs, 0, none⟩) 0 0) rfl B' c' rr rfl rfl 5 i5 Tryd.underlying42 HI.out.1 HI.out.2.1 HI.out.2.2.1 HI.out.2.2.2 0 [] H5.out.row (HBX.out _ _ H5.out.at3) hrr4 ?_; intro v' X3 hO hT hfr; have H6 := hid (show St W0 (Row v' 5 1 rr.length (bvL rr) :: Blk g (hashV (absorbTo ws all i) (.slice A r.length c) n2) 111 :: Vals [.slice A2 na c2] [all] :: L) X3 from (by have := H5.out.grow hO hT hfr; rw [Nat.zero_add, List.nil_append] at this; exact this)); clear hO hT hfr; obtain ⟨A3, c3, rfl, hc3⟩ := row_slice H6.out; have HC3 := hid hc3; clear hc3; have y8 := (cell_of_row X3 g 8 _ _ _ H6.out.at2.blk).trans (hashV_rest HWI.out _ _); have f8 := frozen_of_row X3 g 8 _ _ H6.out.at2.blk))
      refine bodyPost_end (results_none rfl _ _ _) rfl ⟨rfl, A3, c3, ?_⟩
      have h7 := H6.out.at2.setCell 8 (.slice A3 rr.length c3)
      rw [hashV_set8 HWI.out] at h7
      have h8 := (h7.at2.row_val rfl).at3.drop
      show St W0 (Blk g (hashV (wordsOf (m ++ b)) (.slice A3 (restOf (m ++ b)).length c3) (m ++ b).length) 111 :: Vals [.slice A3 (restOf (m ++ b)).length c3] [restOf (m ++ b)] :: L) _
      rw [HMW.out, HMR.out, HN.out]
      exact h8.at2
end
end Go.Proofs.YtnakbdgoaepehaaDoor
/- The sum itself. -/
namespace Go.Cu
open Go Go.RowKit
def padN (r : Nat) : Nat := (119 - r) % 64
/-- What is left, its mark and so many noughts. -/
def padTo (r : List UInt8) (k : Nat) : List UInt8 := r ++ [128] ++ List.replicate k 0
def tailTo (m : List UInt8) (k : Nat) : List UInt8 := padTo (restOf m) (padN (restOf m).length) ++ (be8 (m.length * 8)).take k
def tailL (m : List UInt8) : List UInt8 := tailTo m 8
theorem padTo_len (r : List UInt8) (k : Nat) : (padTo r k).length = r.length + 1 + k := by simp [padTo]; omega
theorem padTo_step (r : List UInt8) (k : Nat) : padTo r k ++ [0] = padTo r (k + 1) := by
  unfold padTo
  rw [List.replicate_succ', List.append_assoc]
theorem tailTo_len (m : List UInt8) {k : Nat} (hk : k ≤ 8) : (tailTo m k).length = (restOf m).length + 1 + padN (restOf m).length + k := by
  unfold tailTo
  rw [List.length_append, padTo_len, List.length_take, be8_len]
  omega
/-- The four bytes of a word. -/
def wordB (x : UInt32) (s : Nat) : UInt8 := UInt8.ofNat (x.toNat / 2 ^ s)
/-- The words written out, so many of them. -/
def outTo (ws : List UInt32) : Nat → List UInt8
  | 0 => List.replicate 32 0
  | i + 1 => ((((outTo ws i).set (i * 4) (wordB (ws.getD i 0) 24)).set (i * 4 + 1) (wordB (ws.getD i 0) 16)).set (i * 4 + 2) (wordB (ws.getD i 0) 8)).set (i * 4 + 3) (wordB (ws.getD i 0) 0)
theorem outTo_len (ws : List UInt32) : ∀ i, (outTo ws i).length = 32
  | 0 => by simp [outTo]
  | i + 1 => by rw [outTo, List.length_set, List.length_set, List.length_set, List.length_set, outTo_len ws i]
theorem run_index_w32 {P : Program} {t e : TypeId} {n : Nat} (ht : P.underlying t = some (.array n e)) (hu : P.underlying e = some (.int .u32)) (hz : (P.info? e).map (·.size) = some 1)
    (l : List UInt32) (hl : l.length = n) (i : Nat) (h : i < n) (w : World) : (Instr.index t (.agg (w32 l)) (.int .i64 i)).run P w = .ok (.int .u32 ((l.getD i 0).toNat : Int)) w := by
  have hin : ¬ (n ≤ i) := by omega
  have hg := w32_get l (i := i) (by omega)
  simp [Instr.index, asIntOf, run_underlying ht, hin, run_sizeOf hz, part, isAgg, run_underlying hu, hg]
def sumL (m : List UInt8) : List UInt8 := outTo (absorbTo (wordsOf m) (tailL m) ((tailL m).length / 64)) 8
theorem sumL_len (m : List UInt8) : (sumL m).length = 32 := outTo_len _ 8
end Go.Cu
namespace Go.Proofs.YtnakbdgoaepehaaDoor
open Go.RowKit Go.Cu
theorem tailTo_step (m : List UInt8) {k : Nat} (hk : k < 8) : tailTo m k ++ [UInt8.ofNat (m.length * 8 / 2 ^ (8 * (7 - k)))] = tailTo m (k + 1) := by
  unfold tailTo
  rw [List.take_add_one, be8_get _ hk, List.append_assoc]
  rfl
set_option maxRecDepth 20000 in
theorem zero54s (W : World) : (zeroValue 23).run Tryd.prog W = .ok (.agg (bv (List.replicate 32 0))) W := by kernel_rfl
theorem size54s : (Tryd.prog.info? 23).map (·.size) = some 32 := by kernel_rfl
theorem zero5s (W : World) : (zeroValue 5).run Tryd.prog W = .ok (.int .u8 0) W := by kernel_rfl
theorem size5s : (Tryd.prog.info? 5).map (·.size) = some 1 := by kernel_rfl
theorem sizeU32 : (Tryd.prog.info? 108).map (·.size) = some 1 := by kernel_rfl
@[go_sem ↓] theorem ldktSUM (a : Act) (dst : Option Tmp) (x : Operand) (ty : TypeId) (pos : String) (after : Array Edge) (guard : Option (Nat × Bool)) :
      execOp a.eval { dst, op := .load 23 x, type := ty, pos, after, guard } = loadK 23 (a.eval x) := rfl
section
variable {W0 W : World} {L : List Atm}
set_option maxRecDepth 20000 in
set_option maxHeartbeats 8000000 in
theorem hsum_st {g : Nat} {A : Option Addr} {c : Nat} {m : List UInt8} (h : St W0 (Hashed g A c m L) W) (hG : Glob W0) (hm : m.length ≤ 1000000000000) :
    Calls Tryd.prog 40 #[.pointer (some ⟨g, 0, none⟩)] W fun x w' => x = .returned (.agg (bv (sumL m))) ∧ St W0 (Hashed g A c m L) w' := by
  obtain ⟨r, hr⟩ : ∃ r, r = restOf m := ⟨_, rfl⟩
  obtain ⟨ws, hws⟩ : ∃ ws, ws = wordsOf m := ⟨_, rfl⟩
  have HW8 := hid (show ws.length = 8 by rw [hws]; exact wordsOf_len m)
  have hrl : r.length < 64 := by rw [hr, restOf_len]; omega
  obtain ⟨n1, hn1⟩ : ∃ n, n = m.length := ⟨_, rfl⟩
  obtain ⟨tl, htl⟩ : ∃ t, t = fun k => tailTo m k := ⟨_, rfl⟩
  have HT0 := hid (show tl 0 = padTo r (padN r.length) by rw [htl, hr]; simp [tailTo])
  have HTS := hid (show ∀ k, k < 8 → tl k ++ [UInt8.ofNat (n1 * 8 / 2 ^ (8 * (7 - k)))] = tl (k + 1) by rw [htl, hn1]; intro k hk; exact tailTo_step m hk)
  have HTL := hid (show ∀ k, k ≤ 8 → (tl k).length = r.length + 1 + padN r.length + k by rw [htl, hr]; intro k hk; exact tailTo_len m hk)
  have HSM := hid (show sumL m = outTo (absorbTo ws (tl 8) ((tl 8).length / 64)) 8 by rw [htl, hws]; rfl)
  have HQ := hid (show ∀ X, St W0 (Blk g (hashV ws (.slice A r.length c) n1) 111 :: Vals [.slice A r.length c] [r] :: L) X → St W0 (Hashed g A c m L) X by rw [hr, hws, hn1]; exact fun X hX => hX)
  have HH := hid (show St W0 (Blk g (hashV ws (.slice A r.length c) n1) 111 :: Vals [.slice A r.length c] [r] :: L) W from by rw [hws, hr, hn1]; exact h)
  have hrc := (vals_one HH.out.at2 rfl).2.1
  have HRB := hid (show ∀ X M, St W0 (Vals [.slice A r.length c] [r] :: M) X → BytesIn X A r from fun X M hX => (vals_one hX rfl).1)
  have HG := hid hG
  obtain ⟨i5, hi, hiz, his, hib⟩ := info_parts info5
  have HI := hid (And.intro hi (And.intro hiz (And.intro his hib)))
  have hn1b : n1 ≤ 1000000000000 := by omega
  have hP : padN r.length ≤ 63 ∧ (r.length + 1 + padN r.length) % 64 = 56 := by unfold padN; omega
  obtain ⟨K, hK⟩ : ∃ K, K = padN r.length := ⟨_, rfl⟩
  rw [← hK] at hP HTL HT0
  have HP := hid hP
  obtain ⟨out, hout⟩ : ∃ o, o = sumL m := ⟨_, rfl⟩
  rw [← hout] at HSM ⊢
  clear h hG hi hiz his hib hr hws hn1 htl hm hK hP hout
  have tok : True := trivial
  obtain ⟨n2, hn2⟩ : ∃ n, n = r.length + 1 := ⟨_, rfl⟩
  have hn2i : (r.length : Int) + 1 = (n2 : Int) := by omega
  have hr0 : 0 + r.length ≤ 140737488355328 := by omega
  have hr1 : r.length + 1 ≤ maxLen := by unfold maxLen; omega
  have hr2 : (r.length + 1) * 1 ≤ 140737488355328 := by omega
  have HN2 := hid hn2
  have HFC := hid (show ∀ X M, St W0 (Blk g (hashV ws (.slice A r.length c) n1) 111 :: M) X → X.cell? ⟨g, 8, none⟩ = some (.slice A r.length c) ∧ X.cell? ⟨g, 9, none⟩ = some (.int .i64 n1) from fun X M hX => ⟨(cell_of_row X g 8 _ _ _ hX.blk).trans (hashV_rest HW8.out _ _), (cell_of_row X g 9 _ _ _ hX.blk).trans (hashV_n HW8.out _ _)⟩)
  clear hn2
  go_enter Tryd.func40, Tryd.ntmps40
  go_upto_region 4 with (first | (have _t := tok; refine wpList_alloc 23 rfl rfl (.agg (bv (List.replicate 32 0))) zero54s ?_; intro go W1 h1 hl1 hg1 hW1; have H1 := hid (HH.out.newBlk hW1 hg1 h1); clear h1 hl1 hg1 hW1 tok) | (refine wpList_buildSlice0 rfl rfl Tryd.underlying42 be5.size ?_; intro gs X2 hS hgs hges hX12; have H2 := hid (H1.out.newRow0 (e := 5) (s := 1) hX12 hges hS); have y8 := (HFC.out _ _ H2.out.at3).1; clear hS hgs hges hX12) | (refine wpList_append_bytes _ _ 42 rfl (.slice (some ⟨gs, 0, none⟩) 0 0) rfl A c r rfl rfl 5 i5 Tryd.underlying42 HI.out.1 HI.out.2.1 HI.out.2.2.1 HI.out.2.2.2 0 [] H2.out.row (HRB.out _ _ H2.out.at4) hr0 ?_; intro v' X3 hO hT hfr; have H3 := hid (show St W0 (Row v' 5 1 r.length (bvL r) :: Blk go (bv (List.replicate 32 0)) 23 :: Blk g (hashV ws (.slice A r.length c) n1) 111 :: Vals [.slice A r.length c] [r] :: L) X3 from (by have := H2.out.grow hO hT hfr; rw [Nat.zero_add, List.nil_append] at this; exact this)); clear hO hT hfr y8; obtain ⟨A3, c3, rfl, hc3⟩ := row_slice H3.out; clear hc3) | (refine wpList_buildSlice1 _ rfl (.int .u8 128) (by simp [Act.eval]) rfl Tryd.underlying42 zero5s size5s (by decide) (by decide) rfl ?_; intro gn X4 hS hgs hges hX1b; have H4 := hid (H3.out.turn hX1b); have HNW := hid (news_box hS [.int .u8 128] rfl); clear hS hgs hges hX1b) | (refine wpList_append_at _ _ _ rfl (.slice A3 r.length c3) rfl ⟨gn, 0, none⟩ 1 1 rfl rfl 5 i5 (.int .u8 0) 1 1 Tryd.underlying42 HI.out.1 HI.out.2.1 HI.out.2.2.1 HI.out.2.2.2 rfl (by decide) r.length (bvL r) H4.out.row [.int .u8 128] rfl HNW.out (by simp [Value.oneCell']) hr1 hr2 ?_; intro v' X5 hO hT hfr; have H5 := hid (H4.out.grow hO hT hfr); obtain ⟨A5, c5, rfl, hc5⟩ := row_slice H5.out; clear hO hT hfr hc5))
  go_loopw [3] (fun v X => ∃ (n k : Nat) (D : Option Addr) (d : Nat), n = r.length + 1 + k ∧ k ≤ K ∧ v = .slice D n d ∧ Hid (St W0 (Row (.slice D n d) 5 1 n (bvL (padTo r k)) :: Blk go (bv (List.replicate 32 0)) 23 :: Blk g (hashV ws (.slice A r.length c) n1) 111 :: Vals [.slice A r.length c] [r] :: L) X)) (fun v _ => K + 64 - (lenOf v))
  case atStart => exact ⟨_, 0, A5, c5, rfl, Nat.zero_le _, rfl, by
    have h := H5.out
    rw [show bvL r ++ [Value.int .u8 128] = bvL (padTo r 0) by simp [bvL, padTo]] at h
    exact hid h⟩
  case round =>
    clear H1 H2 H3 H4 H5 HNW
    obtain ⟨n, k, D, d, hn, hk, rfl, HS⟩ := hrel
    have HN := hid hn
    have hP := HP.out
    have hn0 : (0 : Int) ≤ (n : Int) := by omega
    obtain ⟨q, hq⟩ : ∃ q, q = n % 64 := ⟨_, rfl⟩
    have em : (n : Int).tmod 64 = (q : Int) := by rw [Int.tmod_eq_emod_of_nonneg hn0]; omega
    have em2 : (n : Int) % 64 = (q : Int) := by omega
    by_cases h56 : q = 56
    · have e1 : (q : Int) = 56 := by omega
      obtain rfl : K = k := by omega
      clear hn hP hq
      go_wp2_with fail
      go_loopw [3, 4] (fun v j X => ∃ (n k : Nat) (ji : Int) (D : Option Addr) (d : Nat), n = r.length + 1 + K + k ∧ k ≤ 8 ∧ ji = 7 - (k : Int) ∧ v = .slice D n d ∧ j = .int .i64 ji ∧ Hid (St W0 (Row (.slice D n d) 5 1 n (bvL (tl k)) :: Blk go (bv (List.replicate 32 0)) 23 :: Blk g (hashV ws (.slice A r.length c) n1) 111 :: Vals [.slice A r.length c] [r] :: L) X)) (fun _ j _ => (intOf j + 1).toNat)
      case atStart => exact ⟨n, 0, 7, D, d, HN.out, Nat.zero_le _, rfl, rfl, rfl, by rw [HT0.out]; exact HS⟩
      case round =>
        clear HS HN em em2 e1 hn0
        obtain ⟨n, k, ji, D, d, hn, hk, hji, rfl, rfl, HS⟩ := hrel
        have HN := hid hn
        have HJ := hid hji
        by_cases h8 : k < 8
        · have e1 : (0 : Int) ≤ ji := by omega
          have hP := HP.out
          have hb1 : n + 1 ≤ maxLen := by unfold maxLen; omega
          have hb2 : (n + 1) * 1 ≤ 140737488355328 := by omega
          have hj2 : ji ≤ 7 := by omega
          have y9 := (HFC.out _ _ HS.out.at3).2
          obtain ⟨b, hb⟩ : ∃ b, b = UInt8.ofNat (n1 * 8 / 2 ^ (8 * (7 - k))) := ⟨_, rfl⟩
          have EB : (n1 : Int) * 8 / 2 ^ (8 * ji).toNat % 256 = (b.toNat : Int) := by
            rw [hb, u8_cast, show (8 * ji).toNat = 8 * (7 - k) by omega]
            simp
          have HBS := hid (show tl k ++ [b] = tl (k + 1) by rw [hb]; exact HTS.out k h8)
          clear hn hji hP hb
          go_wp2_with (first | (refine wpList_buildSlice1 _ rfl (.int .u8 b.toNat) (by simp [Act.eval]; exact EB) rfl Tryd.underlying42 zero5s size5s (by decide) (by decide) rfl ?_; intro gn X4 hS hgs hges hX1b; have H4 := hid (HS.out.turn hX1b); have HNW := hid (news_box hS [.int .u8 b.toNat] rfl); clear hS hgs hges hX1b) | (refine wpList_append_at _ _ _ rfl (.slice D n d) rfl ⟨gn, 0, none⟩ 1 1 rfl rfl 5 i5 (.int .u8 0) 1 1 Tryd.underlying42 HI.out.1 HI.out.2.1 HI.out.2.2.1 HI.out.2.2.2 rfl (by decide) n (bvL (tl k)) H4.out.row [.int .u8 b.toNat] rfl HNW.out (by simp [Value.oneCell']) hb1 hb2 ?_; intro v' X5 hO hT hfr; have H5 := hid (H4.out.grow hO hT hfr); obtain ⟨A5, c5, rfl, hc5⟩ := row_slice H5.out; clear hO hT hfr hc5))
          go_roundw
          case rel => exact ⟨_, k + 1, ji - 1, A5, c5, by rw [HN.out]; omega, by omega, by rw [HJ.out]; omega, rfl, rfl, by
            have h := H5.out
            rw [show bvL (tl k) ++ [Value.int .u8 b.toNat] = bvL (tl (k + 1)) by rw [← HBS.out]; simp [bvL]] at h
            exact hid h⟩
          case measure => simp [intOf]; omega
        · have e1 : ¬ (0 : Int) ≤ ji := by omega
          obtain rfl : k = 8 := by omega
          obtain ⟨all, hall⟩ : ∃ a, a = tl 8 := ⟨_, rfl⟩
          have HNA := hid (show n = all.length by rw [hall, hn, HTL.out 8 (Nat.le_refl _)])
          have HAL := hid (show all.length < 200 ∧ all.length % 64 = 0 by rw [← HNA.out]; have := HP.out; omega)
          rw [← hall] at HS HSM
          clear hn hji hall
          have LB : (loadK 109 (.pointer (some ⟨g, 0, none⟩))).run Tryd.prog wr = .ok (.value (.agg (w32 ws))) wr := run_loadK HS.out.at3.blk Tryd.underlying109 rfl size8w ((w32_size _).trans HW8.out) (fun j hj => by
            rw [w32_size, HW8.out] at hj
            rw [Nat.zero_add]
            exact hashV_word HW8.out _ _ hj)
          have HZ8 := hid (show (w32 (List.replicate 8 0)).size = 8 by rw [w32_size, List.length_replicate])
          have HWS := hid ((w32_size ws).trans HW8.out)
          go_wp2_with (first | (refine wpList_alloc 109 rfl rfl (.agg (w32 (List.replicate 8 0))) zero8w ?_; intro gh W2 h1 hl1 hg1 hW1; have H2 := hid ((show St W0 (Vals [.slice D n d] [all] :: Blk go (bv (List.replicate 32 0)) 23 :: Blk g (hashV ws (.slice A r.length c) n1) 111 :: Vals [.slice A r.length c] [r] :: L) wr from HS.out.row_val HNA.out).newBlk hW1 hg1 h1); clear h1 hl1 hg1 hW1) | (refine wpList_store_box 109 _ _ rfl gh rfl rfl (w32 ws) rfl 8 size8w HWS.out (w32_one _) 109 _ H2.out.blk HZ8.out ?_; intro W5 hB hT hs; have H5 := hid (H2.out.put hB hT); clear hB hT hs LB))
          have HV2 := hid (vals_one H5.out.at2 HNA.out)
          go_loopw [3] (fun v X => ∃ (i : Nat) (B' : Option Addr) (c' : Nat) (rr : List UInt8), 64 * i ≤ all.length ∧ v = .slice B' rr.length c' ∧ rr.length ≤ c' ∧ c' ≤ maxLen ∧ Hid (rr = all.drop (64 * i)) ∧ Hid (∀ X M, St W0 (Vals [.slice D n d] [all] :: M) X → BytesIn X B' rr) ∧
            Hid (St W0 (Blk gh (w32 (absorbTo ws all i)) 109 :: Vals [.slice D n d] [all] :: Blk go (bv (List.replicate 32 0)) 23 :: Blk g (hashV ws (.slice A r.length c) n1) 111 :: Vals [.slice A r.length c] [r] :: L) X)) (fun v _ => lenOf v)
          case atStart => exact ⟨0, D, d, all, Nat.zero_le _, by rw [HNA.out], HV2.out.2.1, HV2.out.2.2, hid rfl, hid (fun X M hX => (vals_one hX HNA.out).1), H5⟩
          case round =>
            clear H2 H5 HV2 HS
            obtain ⟨i, B', c', rr, hi, rfl, hrr1, hrr2, HRR, HBR, HS⟩ := hrel
            have HWI := hid (absorbTo_len HW8.out all i)
            have HRL := hid (show rr.length = all.length - 64 * i by rw [HRR.out, List.length_drop])
            unfold maxLen at hrr2
            by_cases h64 : 64 ≤ rr.length
            · have e1 : (0 : Int) < (rr.length : Int) := by omega
              have e2 : (64 : Int) ≤ (c' : Int) := by omega
              have e2b : (64 : Int) ≤ (rr.length : Int) := by omega
              have e3 : 64 ≤ c' := by omega
              obtain ⟨b0, hb0⟩ : ∃ b, rr[0]? = some b := ⟨_, List.getElem?_eq_getElem (by omega)⟩
              obtain ⟨gb, ob, rfl, _, _⟩ := HBR.out wr _ HS.out.at2 0 b0 hb0
              have HTK := hid (show rr.take 64 = (all.drop (64 * i)).take 64 by rw [HRR.out])
              have htl : (rr.take 64).length = 64 := by rw [List.length_take]; omega
              obtain ⟨wn, hwn⟩ : ∃ wn, wn = absorbTo ws all (i + 1) := ⟨_, rfl⟩
              have HPR := hid (show ∀ X M, St W0 (Blk gh (w32 (absorbTo ws all i)) 109 :: Vals [.slice D n d] [all] :: M) X → Calls Tryd.prog 61 #[.agg (w32 (absorbTo ws all i)), .slice (some ⟨gb, ob, none⟩) 64 c'] X fun x w' => x = .returned (.agg (w32 wn)) ∧ Below X.heap.size X w' from fun X M hX => by
                have := press_ok (h := absorbTo ws all i) (n := 64) (c := c') HWI.out (HG.out.below hX.below HG.out.two) ((HBR.out X _ hX.at2).take 64) (by omega) htl e3 (by unfold maxLen; omega)
                rw [hwn, absorbTo, ← HTK.out]
                exact this)
              have HWN := hid hwn
              have HWS2 := hid ((w32_size wn).trans (show wn.length = 8 by rw [hwn]; exact absorbTo_len HW8.out all (i + 1)))
              have HWS3 := hid ((w32_size (absorbTo ws all i)).trans HWI.out)
              have HLD := hid (show ∀ X, St W0 (Blk gh (w32 (absorbTo ws all i)) 109 :: Vals [.slice D n d] [all] :: Blk go (bv (List.replicate 32 0)) 23 :: Blk g (hashV ws (.slice A r.length c) n1) 111 :: Vals [.slice A r.length c] [r] :: L) X → (loadK 109 (.pointer (some ⟨gh, 0, none⟩))).run Tryd.prog X = .ok (.value (.agg (w32 (absorbTo ws all i)))) X from fun X hX => run_loadK_box hX.blk Tryd.underlying109 rfl size8w HWS3.out)
              have HBN := hid (show ∀ X M, St W0 (Vals [.slice D n d] [all] :: M) X → BytesIn X (if c' = 64 then some ⟨gb, ob, none⟩ else some ⟨gb, ob + 64, none⟩) (rr.drop 64) from fun X M hX => by
                by_cases hc : c' = 64
                · rw [List.drop_of_length_le (by omega)]
                  intro k b hk; cases hk
                · rw [if_neg hc]
                  exact (HBR.out X M hX).shift 64)
              clear hb0 htl hwn
              go_wp2_with fail
              refine wp_region_ord [4] [(0, 1), (1, 1), (2, 1), (3, 2), (4, 2)] (fun X => St W0 (Blk gh (w32 (absorbTo ws all i)) 109 :: Vals [.slice D n d] [all] :: Blk go (bv (List.replicate 32 0)) 23 :: Blk g (hashV ws (.slice A r.length c) n1) 111 :: Vals [.slice A r.length c] [r] :: L) X) (by kernel_rfl) (by kernel_rfl) (fun d _ c _ _ h => by cases d <;> exact h) (HS.out.turn (Below.drew (Below.refl _ _))) (fun X hXe hX => ?_)
              clear hXe HS
              repeat (apply wpOrd_class; ((· first | (rw [List.getElem?_toArray, List.getElem?_cons_zero]; done) | (simp only [List.getElem?_toArray, List.getElem?_cons_succ, List.getElem?_cons_zero]; exact rfl))); (· exact rfl); intro K hK; apply Exists.intro; refine And.intro (fun X' hX' => ?_) ?_; (· have hq := HLD.out _ hX'; clear hX'; go_simp; (try go_bits); first | done | exact rfl | exact ⟨rfl, rfl⟩); go_simp; refine hK _ _ ?_; clear hK K)
              (apply wpOrd_comes; ((· first | (rw [List.getElem?_toArray, List.getElem?_cons_zero]; done) | (simp only [List.getElem?_toArray, List.getElem?_cons_succ, List.getElem?_cons_zero]; exact rfl))); intro N hN)
              go_wp2_with (go_at_call 61; (with_reducible refine (HPR.out _ _ hX).mono ?_); rintro v X3 ⟨rfl, hb⟩; have hX3 := hX.turn hb; clear hb)
              refine hN _ _ (fun _ => hX3) ?_
              clear hN N hX
              (apply wpOrd_comes; ((· first | (rw [List.getElem?_toArray, List.getElem?_cons_zero]; done) | (simp only [List.getElem?_toArray, List.getElem?_cons_succ, List.getElem?_cons_zero]; exact rfl))); intro N hN)
              go_wp2_with (refine wpList_store_box 109 _ _ rfl gh rfl rfl (w32 wn) rfl 8 size8w HWS2.out (w32_one _) 109 _ hX3.blk HWS3.out ?_; intro X4 hB hT hs)
              have H4 := hid (hX3.put hB hT)
              rw [HWN.out] at H4
              clear hB hT hs hX3
              refine hN _ _ (fun h => by cases h) ?_
              clear hN N
              refine wpOrd_done ?_
              go_wp2_with fail
              go_roundw
              case rel => exact ⟨i + 1, if c' = 64 then some ⟨gb, ob, none⟩ else some ⟨gb, ob + 64, none⟩, c' - 64, rr.drop 64, by have := HRL.out; omega, by rw [List.length_drop], by rw [List.length_drop]; omega, by unfold maxLen; omega, hid (by rw [HRR.out, List.drop_drop]; congr 1), HBN, H4⟩
              case measure => simp [lenOf]; omega
            · have hl0 : rr.length = 0 := by have := HRL.out; have := HAL.out; omega
              have e1 : ¬ (0 : Int) < (rr.length : Int) := by omega
              have hie : all.length / 64 = i := by have := HRL.out; omega
              rw [hie] at HSM
              obtain ⟨V, hV⟩ : ∃ V, V = absorbTo ws all i := ⟨_, rfl⟩
              have HV8 := hid (show V.length = 8 by rw [hV]; exact HWI.out)
              rw [← hV] at HS HSM
              have HVS := hid ((w32_size V).trans HV8.out)
              have HZ32 := hid (show (bv (List.replicate 32 0)).size = 32 by rw [bv_size, List.length_replicate])
              clear hie hl0 hV HWI
              go_wp2_with (refine wpList_alloc 23 rfl rfl (.agg (bv (List.replicate 32 0))) zero54s ?_; intro g6 W6 h1 hl1 hg1 hW1; have H6 := hid (HS.out.newBlk hW1 hg1 h1); clear h1 hl1 hg1 hW1; have LB2 : (loadK 109 (.pointer (some ⟨gh, 0, none⟩))).run Tryd.prog W6 = .ok (.value (.agg (w32 V))) W6 := run_loadK_box H6.out.at2.blk Tryd.underlying109 rfl size8w HVS.out)
              go_loopw [7, 8, 59] (fun _ _ k X => ∃ j : Nat, j ≤ 8 ∧ k = .int .i64 j ∧ Hid (St W0 (Blk g6 (bv (outTo V j)) 23 :: Blk gh (w32 V) 109 :: Vals [.slice D n d] [all] :: Blk go (bv (List.replicate 32 0)) 23 :: Blk g (hashV ws (.slice A r.length c) n1) 111 :: Vals [.slice A r.length c] [r] :: L) X)) (fun _ _ k _ => 8 - (intOf k).toNat)
              case atStart => exact ⟨0, Nat.zero_le _, rfl, H6⟩
              case round =>
                clear H6 HS
                obtain ⟨j, hj, rfl, HS⟩ := hrel
                by_cases hlt : j < 8
                · have e1 : (j : Int) < 8 := by omega
                  have e0 : (0 : Int) ≤ (j : Int) := by omega
                  obtain ⟨x, hx⟩ : ∃ x, x = V.getD j 0 := ⟨_, rfl⟩
                  have IX : (Instr.index 109 (.agg (w32 V)) (.int .i64 j)).run Tryd.prog wr = .ok (.int .u32 (x.toNat : Int)) wr := by rw [hx]; exact run_index_w32 Tryd.underlying109 Tryd.underlying108 sizeU32 V HV8.out j hlt wr
                  have HXO := hid (show outTo V (j + 1) = ((((outTo V j).set (j * 4) (wordB x 24)).set (j * 4 + 1) (wordB x 16)).set (j * 4 + 2) (wordB x 8)).set (j * 4 + 3) (wordB x 0) by rw [outTo, hx])
                  clear hx
                  obtain ⟨p0, hp0⟩ : ∃ p, p = j * 4 := ⟨_, rfl⟩
                  obtain ⟨p1, hp1⟩ : ∃ p, p = p0 + 1 := ⟨_, rfl⟩
                  obtain ⟨p2, hp2⟩ : ∃ p, p = p0 + 2 := ⟨_, rfl⟩
                  obtain ⟨p3, hp3⟩ : ∃ p, p = p0 + 3 := ⟨_, rfl⟩
                  rw [← hp0, ← hp1, ← hp2, ← hp3] at HXO
                  have em0 : (4 : Int) * (j : Int) = (p0 : Int) := by omega
                  have em1 : (p0 : Int) + 1 = (p1 : Int) := by omega
                  have em2 : (p0 : Int) + 2 = (p2 : Int) := by omega
                  have em3 : (p0 : Int) + 3 = (p3 : Int) := by omega
                  have l0 : (p0 : Int) < 32 := by omega
                  have l1 : (p1 : Int) < 32 := by omega
                  have l2 : (p2 : Int) < 32 := by omega
                  have l3 : (p3 : Int) < 32 := by omega
                  have cc := fun (p : Nat) (hp : p < 32) => (blk_cell HS.out p).trans (bv_get _ _ (by rw [outTo_len V j]; exact hp))
                  have c0 := cc p0 (by omega)
                  have c1 := cc p1 (by omega)
                  have c2 := cc p2 (by omega)
                  have c3 := cc p3 (by omega)
                  have f0 := frozen_of_row wr g6 p0 _ _ HS.out.blk
                  have f1 := frozen_of_row wr g6 p1 _ _ HS.out.blk
                  have f2 := frozen_of_row wr g6 p2 _ _ HS.out.blk
                  have f3 := frozen_of_row wr g6 p3 _ _ HS.out.blk
                  have n01 : p0 ≠ p1 := by omega
                  have n02 : p0 ≠ p2 := by omega
                  have n03 : p0 ≠ p3 := by omega
                  have n12 : p1 ≠ p2 := by omega
                  have n13 : p1 ≠ p3 := by omega
                  have n23 : p2 ≠ p3 := by omega
                  clear cc hp0 hp1 hp2 hp3
                  go_wp2_with fail
                  go_roundw
                  case rel =>
                    refine ⟨j + 1, by omega, by go_num, hid ?_⟩
                    have h := (((HS.out.setCell p0 (.int .u8 ((wordB x 24).toNat : Int))).setCell p1 (.int .u8 ((wordB x 16).toNat : Int))).setCell p2 (.int .u8 ((wordB x 8).toNat : Int))).setCell p3 (.int .u8 ((wordB x 0).toNat : Int))
                    rw [bv_set, bv_set, bv_set, bv_set, ← HXO.out] at h
                    simp only [wordB, u8_cast] at h
                    simpa using h
                  case measure => simp [intOf]; omega
                · have e1 : ¬ (j : Int) < 8 := by omega
                  obtain rfl : j = 8 := by omega
                  rw [← HSM.out] at HS
                  have HO := hid (show (bv out).size = 32 by rw [bv_size, HSM.out]; exact outTo_len V 8)
                  have LB : (loadK 23 (.pointer (some ⟨g6, 0, none⟩))).run Tryd.prog wr = .ok (.value (.agg (bv out))) wr := run_loadK_box HS.out.blk Tryd.underlying23 rfl size54s HO.out
                  go_wp2_with (refine wpList_store_box 23 _ _ rfl go rfl rfl (bv out) rfl 32 size54s HO.out (bv_one _) 23 _ HS.out.at4.blk HZ32.out ?_; intro W5 hB5 hT5 hs5; have H5 := hid (HS.out.at4.put hB5 hT5))
                  exact bodyPost_ret (results_cell rfl _ _ _ go 23 (bv _) (0, 0) rfl hB5 Tryd.underlying23 (by rw [HO.out]; exact size54s)) rfl ⟨rfl, HQ.out _ H5.out.drop.drop.drop.drop⟩
    · have e1 : ¬ (q : Int) = 56 := by omega
      have hk2 : k < K := by
        rcases Nat.lt_or_ge k K with hlt | hge
        · exact hlt
        · exact absurd (by omega) h56
      have hb1 : n + 1 ≤ maxLen := by unfold maxLen; omega
      have hb2 : (n + 1) * 1 ≤ 140737488355328 := by omega
      clear hn hP hq
      go_wp2_with (first | (refine wpList_buildSlice1 _ rfl (.int .u8 0) (by simp [Act.eval]) rfl Tryd.underlying42 zero5s size5s (by decide) (by decide) rfl ?_; intro gn X4 hS hgs hges hX1b; have H4 := hid (HS.out.turn hX1b); have HNW := hid (news_box hS [.int .u8 0] rfl); clear hS hgs hges hX1b) | (refine wpList_append_at _ _ _ rfl (.slice D n d) rfl ⟨gn, 0, none⟩ 1 1 rfl rfl 5 i5 (.int .u8 0) 1 1 Tryd.underlying42 HI.out.1 HI.out.2.1 HI.out.2.2.1 HI.out.2.2.2 rfl (by decide) n (bvL (padTo r k)) H4.out.row [.int .u8 0] rfl HNW.out (by simp [Value.oneCell']) hb1 hb2 ?_; intro v' X5 hO hT hfr; have H5 := hid (H4.out.grow hO hT hfr); obtain ⟨A5, c5, rfl, hc5⟩ := row_slice H5.out; clear hO hT hfr hc5))
      go_roundw
      case rel => exact ⟨_, k + 1, A5, c5, by rw [HN.out]; omega, by omega, rfl, by
        have h := H5.out
        rw [show bvL (padTo r k) ++ [Value.int .u8 0] = bvL (padTo r (k + 1)) by rw [← padTo_step]; simp [bvL]] at h
        exact hid h⟩
      case measure => simp [lenOf]; have := HN.out; have := HP.out; omega
end
end Go.Proofs.YtnakbdgoaepehaaDoor
/- The sum of parts. -/
namespace Go.Cu
open Go Go.RowKit
/-- Parts that lie in memory wherever L holds. -/
def PartsIn (W0 : World) (L : List Atm) (A : Option Addr) (ps : List (List UInt8)) : Prop := ∀ i b, ps[i]? = some b → ∃ g o B cb, A = some ⟨g, o, none⟩ ∧ b.length ≤ cb ∧ cb ≤ maxLen ∧ ∀ X, St W0 L X → X.cell? ⟨g, o + i, none⟩ = some (.slice B b.length cb) ∧ BytesIn X B b
theorem take_flat_le (ps : List (List UInt8)) (i : Nat) : (ps.take i).flatten.length ≤ ps.flatten.length := by
  have h : ps.flatten = (ps.take i).flatten ++ (ps.drop i).flatten := by rw [← List.flatten_append, List.take_append_drop]
  rw [h, List.length_append]; omega
theorem take_flat_step {ps : List (List UInt8)} {i : Nat} {b : List UInt8} (h : ps[i]? = some b) : (ps.take i).flatten ++ b = (ps.take (i + 1)).flatten := by
  rw [List.take_add_one, h, List.flatten_append]
  simp
end Go.Cu
namespace Go.Proofs.YtnakbdgoaepehaaDoor
open Go.RowKit Go.Cu
section
variable {W0 W : World} {L : List Atm}
set_option maxRecDepth 20000 in
set_option maxHeartbeats 8000000 in
theorem sha_st (h : St W0 L W) (hG : Glob W0) {A : Option Addr} {c : Nat} {ps : List (List UInt8)} (hp : PartsIn W0 L A ps) (hps : ps.length ≤ 1000000) (hm : ps.flatten.length ≤ 1000000000000) :
    Calls Tryd.prog 16 #[.slice A ps.length c] W fun x w' => x = .returned (.agg (bv (sumL ps.flatten))) ∧ St W0 L w' := by
  have HH := hid h
  have HP := hid hp
  have HN := hid (fun X (M : List Atm) (hX : St W0 M X) => hnew_st hX hG)
  have HW := hid (fun X (i : Nat) (b : List UInt8) (hi : ps[i]? = some b) (go g : Nat) (A1 : Option Addr) (c1 : Nat) (B : Option Addr) (cb : Nat) (h1 : b.length ≤ cb) (h2 : cb ≤ maxLen) (h3 : ∀ X, St W0 L X → BytesIn X B b) (hX : St W0 (Hashed g A1 c1 (ps.take i).flatten (Blk go (bv (List.replicate 32 0)) 23 :: L)) X) =>
    (hwrite_st hX hG (B := B) (cb := cb) (b := b) (fun Y hY => h3 Y hY.drop) h1 h2 (by
      have := take_flat_le ps (i + 1)
      rw [← take_flat_step hi, List.length_append] at this
      omega)))
  have HS := hid (fun X (go g : Nat) (A1 : Option Addr) (c1 : Nat) (hX : St W0 (Hashed g A1 c1 ps.flatten (Blk go (bv (List.replicate 32 0)) 23 :: L)) X) => hsum_st hX hG hm)
  have HSL := hid (show (bv (sumL ps.flatten)).size = 32 by rw [bv_size]; exact sumL_len _)
  have HZ32 := hid (show (bv (List.replicate 32 0)).size = 32 by rw [bv_size, List.length_replicate])
  clear h hG hp hm
  go_enter Tryd.func16, Tryd.ntmps16
  go_wp2_with (first | (refine wpList_alloc 23 rfl rfl (.agg (bv (List.replicate 32 0))) zero54s ?_; intro go W1 h1 hl1 hg1 hW1; have H1 := hid (HH.out.newBlk hW1 hg1 h1); clear h1 hl1 hg1 hW1) | (go_at_call 38; (with_reducible refine (HN.out _ _ H1.out).mono ?_); rintro x W2 ⟨g, rfl, h2⟩; have H2 := hid h2; clear h2))
  go_loopw [5, 9] (fun _ k X => ∃ (i : Nat) (A1 : Option Addr) (c1 : Nat), i ≤ ps.length ∧ k = .int .i64 i ∧ Hid (St W0 (Hashed g A1 c1 (ps.take i).flatten (Blk go (bv (List.replicate 32 0)) 23 :: L)) X)) (fun _ k _ => ps.length - (intOf k).toNat)
  case atStart => exact ⟨0, none, 0, Nat.zero_le _, rfl, H2⟩
  case round =>
    clear H1 H2
    obtain ⟨i, A1, c1, hi, rfl, HR⟩ := hrel
    by_cases hlt : i < ps.length
    · have e1 : (i : Int) < (ps.length : Int) := by omega
      have e0 : (0 : Int) ≤ (i : Int) := by omega
      have HE := hid (List.getElem?_eq_getElem hlt)
      obtain ⟨b, hb⟩ : ∃ b, ps[i]? = some b := ⟨_, HE.out⟩
      have HB := hid hb
      obtain ⟨ga, oa, B, cb, rfl, hc1, hc2, hX3⟩ := HP.out i b hb
      have cx := (hX3 _ HR.out.drop.drop.drop).1
      have HX3 := hid (fun X hX => (hX3 X hX).2)
      clear hb hX3
      go_wp2_with (go_at_call 39; (with_reducible refine (HW.out _ i b HB.out go g A1 c1 B cb hc1 hc2 HX3.out HR.out).mono ?_); rintro x W4 ⟨rfl, A4, c4, h4⟩; rw [take_flat_step HB.out] at h4; have H4 := hid h4; clear h4)
      go_roundw
      case rel => exact ⟨i + 1, A4, c4, by omega, by go_num, H4⟩
      case measure => simp [intOf]; omega
    · have e1 : ¬ (i : Int) < (ps.length : Int) := by omega
      obtain rfl : i = ps.length := by omega
      rw [List.take_length] at HR
      go_wp2_with (first | (go_at_call 40; (with_reducible refine (HS.out _ go g A1 c1 HR.out).mono ?_); rintro x W5 ⟨rfl, h5⟩; have H5 := hid h5.drop.drop; clear h5) | (refine wpList_store_box 23 _ _ rfl go rfl rfl (bv (sumL ps.flatten)) rfl 32 size54s HSL.out (bv_one _) 23 _ H5.out.blk HZ32.out ?_; intro W6 hB6 hT6 hs6; have H6 := hid (H5.out.put hB6 hT6)))
      exact bodyPost_ret (results_cell rfl _ _ _ go 23 (bv _) (0, 0) rfl hB6 Tryd.underlying23 (by rw [HSL.out]; exact size54s)) rfl ⟨rfl, H6.out.drop⟩
end
end Go.Proofs.YtnakbdgoaepehaaDoor
/- The sum of "abc": by tables of states. -/
namespace Go.Cu
open Go Go.RowKit
def abcB : List UInt8 := [97, 98, 99]
def abcW : List UInt32 := [1633837952, 0, 0, 0, 0, 0, 0, 0, 0, 0, 0, 0, 0, 0, 0, 24, 1633837952, 983040, 2108187653, 1610613702, 1050508152, 25426944, 316456923, 3806512014, 3357629466, 3073800610, 3854317833, 845560923, 2636160359, 3968280267, 1881225380, 3552024379, 2482346367, 996719219, 2952069057, 4043988066, 176896406, 1924104970, 2483675966, 610538786, 2672279444, 4037431130, 1042573945, 657669027, 206005234, 2215296807, 2049510749, 106709978, 4215179723, 3430291419, 3118885940, 2845390439, 2226839261, 3256115900, 344409900, 2987358873, 4015503821, 3957764664, 2682456414, 2025622859, 2755645205, 1720397816, 4004225740, 313650667]
def abcS : List (List UInt32) := [[1779033703, 3144134277, 1013904242, 2773480762, 1359893119, 2600822924, 528734635, 1541459225],
  [1567288269, 1779033703, 3144134277, 1013904242, 4197074466, 1359893119, 2600822924, 528734635],
  [1516951981, 1567288269, 1779033703, 3144134277, 2026797449, 4197074466, 1359893119, 2600822924],
  [3368241063, 1516951981, 1567288269, 1779033703, 4180228587, 2026797449, 4197074466, 1359893119],
  [3578852966, 3368241063, 1516951981, 1567288269, 618661968, 4180228587, 2026797449, 4197074466],
  [71342698, 3578852966, 3368241063, 1516951981, 1135452741, 618661968, 4180228587, 2026797449],
  [725748213, 71342698, 3578852966, 3368241063, 1900175533, 1135452741, 618661968, 4180228587],
  [3842179968, 725748213, 71342698, 3578852966, 2603066369, 1900175533, 1135452741, 618661968],
  [2241887071, 3842179968, 725748213, 71342698, 207977081, 2603066369, 1900175533, 1135452741],
  [2382687417, 2241887071, 3842179968, 725748213, 852110732, 207977081, 2603066369, 1900175533],
  [2357671019, 2382687417, 2241887071, 3842179968, 482944406, 852110732, 207977081, 2603066369],
  [1201185780, 2357671019, 2382687417, 2241887071, 1131095016, 482944406, 852110732, 207977081],
  [4146054569, 1201185780, 2357671019, 2382687417, 2171590377, 1131095016, 482944406, 852110732],
  [2274437520, 4146054569, 1201185780, 2357671019, 509051416, 2171590377, 1131095016, 482944406],
  [3643992854, 2274437520, 4146054569, 1201185780, 1952073950, 509051416, 2171590377, 1131095016],
  [3227803614, 3643992854, 2274437520, 4146054569, 194179596, 1952073950, 509051416, 2171590377],
  [2969183118, 3227803614, 3643992854, 2274437520, 123276749, 194179596, 1952073950, 509051416],
  [567974555, 2969183118, 3227803614, 3643992854, 2150900380, 123276749, 194179596, 1952073950],
  [3271285201, 567974555, 2969183118, 3227803614, 2221859924, 2150900380, 123276749, 194179596],
  [4269243327, 3271285201, 567974555, 2969183118, 3431569761, 2221859924, 2150900380, 123276749],
  [3790736435, 4269243327, 3271285201, 567974555, 2959311225, 3431569761, 2221859924, 2150900380],
  [2647034723, 3790736435, 4269243327, 3271285201, 2329577776, 2959311225, 3431569761, 2221859924],
  [3261099373, 2647034723, 3790736435, 4269243327, 3777329520, 2329577776, 2959311225, 3431569761],
  [2812502591, 3261099373, 2647034723, 3790736435, 1240797514, 3777329520, 2329577776, 2959311225],
  [3319086477, 2812502591, 3261099373, 2647034723, 2856829767, 1240797514, 3777329520, 2329577776],
  [472655928, 3319086477, 2812502591, 3261099373, 673443729, 2856829767, 1240797514, 3777329520],
  [3454534525, 472655928, 3319086477, 2812502591, 339230094, 673443729, 2856829767, 1240797514],
  [3056518332, 3454534525, 472655928, 3319086477, 3343672598, 339230094, 673443729, 2856829767],
  [2010346792, 3056518332, 3454534525, 472655928, 3992961016, 3343672598, 339230094, 673443729],
  [909411017, 2010346792, 3056518332, 3454534525, 1628611511, 3992961016, 3343672598, 339230094],
  [2684750640, 909411017, 2010346792, 3056518332, 2917635127, 1628611511, 3992961016, 3343672598],
  [3935906338, 2684750640, 909411017, 2010346792, 17410874, 2917635127, 1628611511, 3992961016],
  [1941126133, 3935906338, 2684750640, 909411017, 3126399250, 17410874, 2917635127, 1628611511],
  [2564891911, 1941126133, 3935906338, 2684750640, 2631529974, 3126399250, 17410874, 2917635127],
  [4267724277, 2564891911, 1941126133, 3935906338, 1495571923, 2631529974, 3126399250, 17410874],
  [2846323596, 4267724277, 2564891911, 1941126133, 140458035, 1495571923, 2631529974, 3126399250],
  [1705037796, 2846323596, 4267724277, 2564891911, 4105175766, 140458035, 1495571923, 2631529974],
  [1101421745, 1705037796, 2846323596, 4267724277, 124953195, 4105175766, 140458035, 1495571923],
  [887035396, 1101421745, 1705037796, 2846323596, 2768741693, 124953195, 4105175766, 140458035],
  [1841658506, 887035396, 1101421745, 1705037796, 4034403272, 2768741693, 124953195, 4105175766],
  [2045405306, 1841658506, 887035396, 1101421745, 519815328, 4034403272, 2768741693, 124953195],
  [3597076326, 2045405306, 1841658506, 887035396, 641019235, 519815328, 4034403272, 2768741693],
  [3745932591, 3597076326, 2045405306, 1841658506, 2206934801, 641019235, 519815328, 4034403272],
  [397020670, 3745932591, 3597076326, 2045405306, 3737995029, 2206934801, 641019235, 519815328],
  [2638983059, 397020670, 3745932591, 3597076326, 4255271982, 3737995029, 2206934801, 641019235],
  [643991573, 2638983059, 397020670, 3745932591, 2819559920, 4255271982, 3737995029, 2206934801],
  [1923828625, 643991573, 2638983059, 397020670, 3077922209, 2819559920, 4255271982, 3737995029],
  [2706117808, 1923828625, 643991573, 2638983059, 3581645993, 3077922209, 2819559920, 4255271982],
  [1098003085, 2706117808, 1923828625, 643991573, 4274981830, 3581645993, 3077922209, 2819559920],
  [91585771, 1098003085, 2706117808, 1923828625, 3178315832, 4274981830, 3581645993, 3077922209],
  [4045142696, 91585771, 1098003085, 2706117808, 1851537676, 3178315832, 4274981830, 3581645993],
  [2047150241, 4045142696, 91585771, 1098003085, 1391578359, 1851537676, 3178315832, 4274981830],
  [2288941602, 2047150241, 4045142696, 91585771, 1227037726, 1391578359, 1851537676, 3178315832],
  [270520975, 2288941602, 2047150241, 4045142696, 1386118400, 1227037726, 1391578359, 1851537676],
  [4117770203, 270520975, 2288941602, 2047150241, 2672265155, 1386118400, 1227037726, 1391578359],
  [1053056219, 4117770203, 270520975, 2288941602, 3842906959, 2672265155, 1386118400, 1227037726],
  [952932627, 1053056219, 4117770203, 270520975, 1422599787, 3842906959, 2672265155, 1386118400],
  [4241590395, 952932627, 1053056219, 4117770203, 2606665836, 1422599787, 3842906959, 2672265155],
  [3227702383, 4241590395, 952932627, 1053056219, 2118385806, 2606665836, 1422599787, 3842906959],
  [4290184306, 3227702383, 4241590395, 952932627, 1837350854, 2118385806, 2606665836, 1422599787],
  [3064893439, 4290184306, 3227702383, 4241590395, 2988158269, 1837350854, 2118385806, 2606665836],
  [3093179625, 3064893439, 4290184306, 3227702383, 2518632596, 2988158269, 1837350854, 2118385806],
  [80891244, 3093179625, 3064893439, 4290184306, 2492278198, 2518632596, 2988158269, 1837350854],
  [3550093669, 80891244, 3093179625, 3064893439, 4212265488, 2492278198, 2518632596, 2988158269],
  [1349398616, 3550093669, 80891244, 3093179625, 1593118500, 4212265488, 2492278198, 2518632596]]
def abcF : List UInt32 := [3128432319, 2399260650, 1094795486, 1571693091, 2953011619, 2518121116, 3021012833, 4060091821]
def abcO : List UInt8 := [186, 120, 22, 191, 143, 1, 207, 234, 65, 65, 64, 222, 93, 174, 34, 35, 176, 3, 97, 163, 150, 23, 122, 156, 180, 16, 255, 97, 242, 0, 21, 173]
def abcPart (i : Nat) : List UInt32 := abcW.take (16 + i) ++ List.replicate (48 - i) 0
set_option maxRecDepth 100000 in
theorem abc_words : wordsTo ((tailL abcB).take 64) 64 = abcPart 0 := by decide +kernel
set_option maxRecDepth 100000 in
theorem abc_mix : ∀ i, i < 48 → (abcPart i).set (16 + i) (mixW (abcPart i) (16 + i)) = abcPart (i + 1) := by decide +kernel
theorem abc_spreadTo : ∀ i, i ≤ 48 → spreadTo ((tailL abcB).take 64) i = abcPart i
  | 0, _ => abc_words
  | i + 1, h => by rw [spreadTo, abc_spreadTo i (by omega), abc_mix i (by omega)]
theorem abc_spread : spreadW ((tailL abcB).take 64) = abcW := (abc_spreadTo 48 (Nat.le_refl _)).trans (by decide +kernel)
set_option maxRecDepth 100000 in
theorem abc_round : ∀ i, i < 64 → stepW (abcS.getD i []) (roundsL.getD i 0) (abcW.getD i 0) = abcS.getD (i + 1) [] := by decide +kernel
theorem abc_roundsTo : ∀ i, i ≤ 64 → roundsTo startL abcW i = abcS.getD i []
  | 0, _ => by decide +kernel
  | i + 1, h => by rw [roundsTo, abc_roundsTo i (by omega), abc_round i (by omega)]
set_option maxRecDepth 100000 in
theorem abc_add : addTo startL (abcS.getD 64 []) 8 = abcF := by decide +kernel
theorem abc_press : pressW startL ((tailL abcB).take 64) = abcF := by
  unfold pressW
  rw [abc_spread, abc_roundsTo 64 (Nat.le_refl _), abc_add]
theorem abc_start : wordsOf abcB = startL := by decide +kernel
theorem abc_len : (tailL abcB).length / 64 = 1 := by decide +kernel
set_option maxRecDepth 100000 in
theorem abc_out : outTo abcF 8 = abcO := by decide +kernel
theorem abc_sum : sumL abcB = abcO := by
  unfold sumL
  rw [abc_start, abc_len]
  show outTo (pressW startL ((tailL abcB).take 64)) 8 = _
  rw [abc_press, abc_out]
end Go.Cu
/- Does the sum stand? -/
namespace Go.Cu
open Go Go.RowKit
section
variable {W0 W : World} {L : List Atm}
/-- A constant's bytes: the new row bears a mark behind its last cell. -/
theorem St.marked' (h : St W0 L W) (r : List UInt8) (e : TypeId) (n m : Nat) (hr : r.length ≤ maxLen) : St W0 (Vals [.slice (some ⟨W.heap.size, 0, none⟩) r.length r.length] [r] :: L) (W.alloc (.cells (bv r) e (n, m))) := by
  have hat : (W.alloc (.cells (bv r) e (n, m))).heap[W.heap.size]? = some (.cells (bv r) e (n, m)) := heap_alloc_at _ _ rfl
  refine h.push ((Below.refl _ _).alloc (Nat.le_refl _) _) ⟨rfl, fun i q hi => ?_⟩
  match i with
  | i + 1 => cases hi
  | 0 =>
    obtain rfl : r = q := by simpa using hi
    refine ⟨_, _, rfl, Nat.le_refl _, hr, fun k b hb => ⟨W.heap.size, 0, rfl, Nat.le_refl _, heap_lt hat, ?_⟩⟩
    rw [Nat.zero_add, cell_of_row _ W.heap.size k _ _ _ hat, bv_eq, List.getElem?_toArray]
    unfold bvL
    rw [List.getElem?_map, hb]
    rfl
end
end Go.Cu
namespace Go.Proofs.YtnakbdgoaepehaaDoor
open Go.RowKit Go.Cu
theorem zeroBYs (W : World) : (zeroValue 42).run Tryd.prog W = .ok (.slice none 0 0) W := by kernel_rfl
theorem sizeBYs : (Tryd.prog.info? 42).map (·.size) = some 1 := by kernel_rfl
section
variable {W0 W : World} {L : List Atm}
theorem abc_sha {X : World} {gs gb : Nat} (hX : St W0 (Blk gs #[.slice (some ⟨gb, 0, none⟩) 3 3] 42 :: Vals [.slice (some ⟨gb, 0, none⟩) 3 3] [[97, 98, 99]] :: L) X) (hG : Glob W0) :
    Calls Tryd.prog 16 #[.slice (some ⟨gs, 0, none⟩) 1 1] X fun x w' => x = .returned (.agg (bv abcO)) ∧ St W0 (Blk gs #[.slice (some ⟨gb, 0, none⟩) 3 3] 42 :: Vals [.slice (some ⟨gb, 0, none⟩) 3 3] [[97, 98, 99]] :: L) w' := by
  have hp : PartsIn W0 (Blk gs #[.slice (some ⟨gb, 0, none⟩) 3 3] 42 :: Vals [.slice (some ⟨gb, 0, none⟩) 3 3] [[97, 98, 99]] :: L) (some ⟨gs, 0, none⟩) [[97, 98, 99]] := fun i b hi => by
    match i with
    | i + 1 => cases hi
    | 0 =>
      obtain rfl : [97, 98, 99] = b := by simpa using hi
      exact ⟨gs, 0, some ⟨gb, 0, none⟩, 3, rfl, Nat.le_refl _, by decide, fun Y hY => ⟨(cell_of_row Y gs 0 _ _ _ hY.blk).trans rfl, (vals_one hY.at2 rfl).1⟩⟩
  have h := sha_st hX hG (c := 1) hp (by decide) (by decide)
  rw [show ([[97, 98, 99]] : List (List UInt8)).flatten = abcB from rfl, abc_sum] at h
  exact h
set_option maxRecDepth 20000 in
set_option maxHeartbeats 8000000 in
theorem stands_st (h : St W0 L W) (hG : Glob W0) : Calls Tryd.prog 12 #[] W fun x w' => x = .returned (.bool true) ∧ St W0 L w' := by
  have HH := hid h
  have kc := fun (w : World) (C : Array Value) (n c : Nat) => Lib.run_convert_bytes_const (P := Tryd.prog) w 42 5 C n c Tryd.underlying42 Tryd.underlying5
  have HS := hid (fun (X : World) (gs gb : Nat) hX => abc_sha (L := L) (gs := gs) (gb := gb) (X := X) hX hG)
  have HZ := hid (show (bv abcO).size = 32 by decide)
  have HZ32 := hid (show (bv (List.replicate 32 0)).size = 32 by rw [bv_size, List.length_replicate])
  clear h hG
  go_enter Tryd.func12, Tryd.ntmps12
  go_wp2_with (first | (refine wpList_buildSlice1 _ rfl (.slice (some ⟨W.heap.size, 0, none⟩) 3 3) (by simp [Act.eval]) rfl Tryd.underlying80 zeroBYs sizeBYs (by decide) (by decide) rfl ?_; intro gs X4 hS hgs hges hX1b; have H4 := hid (show St W0 (Blk gs #[.slice (some ⟨W.heap.size, 0, none⟩) 3 3] 42 :: Vals [.slice (some ⟨W.heap.size, 0, none⟩) 3 3] [[97, 98, 99]] :: L) X4 from (HH.out.marked' [97, 98, 99] 5 3 4 (by decide)).newBlk hX1b hges hS); clear hS hgs hges hX1b) | (go_at_call 16; (with_reducible refine (HS.out _ _ _ H4.out).mono ?_); rintro r w3 ⟨rfl, hs3⟩; have H5 := hid hs3; clear hs3) | (refine wpList_alloc 23 rfl rfl (.agg (bv (List.replicate 32 0))) zero54s ?_; intro go W5 h1 hl1 hg1 hW1; have H6 := hid (H5.out.newBlk hW1 hg1 h1); clear h1 hl1 hg1 hW1) | (refine wpList_store_box 23 _ _ rfl go rfl rfl (bv abcO) rfl 32 size54s HZ.out (bv_one _) 23 _ H6.out.blk HZ32.out ?_; intro W6 hB6 hT6 hs6; have H7 := hid (H6.out.put hB6 hT6); have c0 : W6.cell? ⟨go, 0, none⟩ = some (.int .u8 186) := (cell_of_row W6 go 0 _ _ _ H7.out.blk).trans rfl; have c31 : W6.cell? ⟨go, 31, none⟩ = some (.int .u8 173) := (cell_of_row W6 go 31 _ _ _ H7.out.blk).trans rfl; clear hB6 hT6 hs6))
  go_ret
  exact ⟨rfl, H7.out.drop.drop.drop⟩
end
end Go.Proofs.YtnakbdgoaepehaaDoor
/- The pad of a mark's key. -/
namespace Go.Cu
open Go Go.RowKit
section
variable {P : Program}
theorem wpList_mk {t e : TypeId} {ops : Array Oper} {rest : List Oper} {o : Oper} {a : Act} {w : World} {Q : Exit → Act → World → Prop} (x y : Operand) (ho : o.op = .makeSlice t x y) (u v : Value) (hx : a.eval x = u) (hy : a.eval y = v)
    (hw : Region.wanted o (yielded ops a.tmps) = true) (n : Nat) (cs : Array Value) (hrun : ∀ w : World, (Instr.makeSlice t u v).run P w = .ok (.slice (some ⟨w.heap.size, 0, none⟩) n n) (w.alloc (.cells cs e)))
    (h : ∀ (g : Nat) (W : World), W.heap[g]? = some (.cells cs e (0, 0)) → g < W.heap.size → w.heap.size ≤ g → Below w.heap.size w W → wpList P ops Q rest (a.put o.dst (.slice (some ⟨g, 0, none⟩) n n)) W) : wpList P ops Q (o :: rest) a w := by
  refine wpList_wanted hw fun K hK => ?_
  have hr : (execOp a.eval o).run P w = .ok (.value (.slice (some ⟨w.heap.size, 0, none⟩) n n)) (w.alloc (.cells cs e)) := by
    unfold execOp
    simp only [ho, hx, hy, Sem.run_bind, hrun w, Result.andThen_ok, Sem.run_pure]
  unfold Oper.wp
  rw [hr]
  exact hK _ _ (h w.heap.size _ (heap_alloc_at _ _ rfl) (by simp) (Nat.le_refl _) ((Below.refl _ _).alloc (Nat.le_refl _) _))
end
/-- A key, filled up to a block. -/
def fill64 (k : List UInt8) : List UInt8 := k ++ List.replicate (64 - k.length) 0
theorem fill64_len {k : List UInt8} (h : k.length ≤ 64) : (fill64 k).length = 64 := by
  unfold fill64
  rw [List.length_append, List.length_replicate]; omega
/-- .. and put together with a byte. -/
def padL (k : List UInt8) (b : UInt8) : List UInt8 := (fill64 k).map (· ^^^ b)
/-- The first i of them put together with a byte. -/
structure Xord (b : UInt8) (i : Nat) (l m : List UInt8) : Prop where
  len : m.length = l.length
  done : ∀ j x, j < i → l[j]? = some x → m[j]? = some (x ^^^ b)
  rest : ∀ j, i ≤ j → m[j]? = l[j]?
theorem Xord.start (b : UInt8) (l : List UInt8) : Xord b 0 l l := ⟨rfl, fun j x h _ => absurd h (by omega), fun _ _ => rfl⟩
theorem Xord.step {b : UInt8} {i : Nat} {l m : List UInt8} (h : Xord b i l m) {x : UInt8} (hx : l[i]? = some x) : Xord b (i + 1) l (m.set i (x ^^^ b)) where
  len := by rw [List.length_set]; exact h.len
  done j y hj hy := by
    by_cases e : j = i
    · subst e
      rw [hx] at hy
      cases hy
      have hl := (List.getElem?_eq_some_iff.1 hx).1
      rw [List.getElem?_set_self (by rw [h.len]; exact hl)]
    · rw [List.getElem?_set_ne (fun e' => e e'.symm)]
      exact h.done j y (by omega) hy
  rest j hj := by
    rw [List.getElem?_set_ne (by omega)]
    exact h.rest j (by omega)
theorem Xord.all {b : UInt8} {i : Nat} {l m : List UInt8} (h : Xord b i l m) (hi : l.length ≤ i) : m = l.map (· ^^^ b) := by
  apply List.ext_getElem?
  intro j
  rw [List.getElem?_map]
  by_cases hj : j < l.length
  · rw [List.getElem?_eq_getElem hj]
    exact h.done j _ (by omega) (List.getElem?_eq_getElem hj)
  · rw [List.getElem?_eq_none (by rw [h.len]; omega), List.getElem?_eq_none (by omega)]
    rfl
theorem u8_xor_b (x b : UInt8) : bits .xor .u8 (x.toNat : Int) (b.toNat : Int) = ((x ^^^ b).toNat : Int) := by
  rw [u8_xor_nat _ _ (UInt8.toNat_lt _) (UInt8.toNat_lt _), UInt8.toNat_xor]
theorem src_all {X : World} {K : Option Addr} {k : List UInt8} (h : BytesIn X K k) : ∀ j v, (bvL k)[j]? = some v → ∃ ad, K = some ad ∧ X.cell? (ad.add j) = some v := fun j v hj => by
  unfold bvL at hj
  rw [List.getElem?_map] at hj
  cases hq : k[j]? with
  | none => rw [hq] at hj; cases hj
  | some q =>
    rw [hq] at hj
    obtain rfl : Value.int .u8 q.toNat = v := by simpa using hj
    obtain ⟨g', o2, e', _, hc⟩ := h j q hq
    subst e'
    refine ⟨_, rfl, ?_⟩
    have e3 : (⟨g', o2, none⟩ : Addr).add j = ⟨g', o2 + j, none⟩ := by unfold Addr.add; split <;> simp_all
    rw [e3]
    exact hc
theorem put_fill (k : List UInt8) : putAt (bv (List.replicate 64 0)) 0 (bvL k) = bv (fill64 k) := by
  unfold putAt fill64 bv bvL
  rw [List.take_zero, List.nil_append, Nat.zero_add, List.length_map, List.map_append, List.map_replicate, List.map_replicate, List.drop_replicate]
end Go.Cu
namespace Go.Proofs.YtnakbdgoaepehaaDoor
open Go.RowKit Go.Cu
theorem makeBY (n : Nat) (hn : n ≤ 100000) (W : World) : (Instr.makeSlice 42 (.int .i64 n) (.int .i64 n)).run Tryd.prog W = .ok (.slice (some ⟨W.heap.size, 0, none⟩) n n) (W.alloc (.cells (bv (List.replicate n 0)) 5)) := by
  obtain ⟨i0, hi, hiz, his, hib⟩ := info_parts info5
  have h := run_make (P := Tryd.prog) W 42 5 i0 _ Tryd.underlying42 hi hiz .i64 .i64 n n (by omega) (Int.le_refl _) (by rw [hib]; omega) (by omega)
  rw [his] at h
  simp only [Int.toNat_natCast] at h
  rw [show madeCells (Value.int .u8 0).cells (n * 1) = bv (List.replicate n 0) from by
    apply Array.ext
    · rw [size_madeCells, bv_size, List.length_replicate, Nat.mul_one]
    · intro j h1 h2
      simp [madeCells, bv, Value.cells, Nat.mod_one]] at h
  exact h
section
variable {W0 W : World} {L : List Atm}
set_option maxRecDepth 20000 in
set_option maxHeartbeats 4000000 in
theorem pad_st (h : St W0 L W) {K : Option Addr} {kc : Nat} {k : List UInt8} (hk : ∀ X, St W0 L X → BytesIn X K k) (hkl : k.length ≤ 64) (b : UInt8) :
    Calls Tryd.prog 43 #[.slice K k.length kc, .int .u8 b.toNat] W fun x w' => ∃ g, x = .returned (.slice (some ⟨g, 0, none⟩) 64 64) ∧ St W0 (Blk g (bv (padL k b)) 5 :: L) w' := by
  have HH := hid h
  have HK := hid hk
  have HKL := hid hkl
  have HF := hid (fill64_len hkl)
  have HPF := hid (put_fill k)
  have hmin : (bvL k).length = Nat.min k.length 64 := by
    rw [bvL_len]; show k.length = min k.length 64; omega
  have HMIN := hid hmin
  clear h hk hmin
  go_enter Tryd.func43, Tryd.ntmps43
  go_wp2_with (first | (refine wpList_mk _ _ rfl _ _ rfl rfl rfl 64 (bv (List.replicate 64 0)) (makeBY 64 (by decide)) ?_; intro g W1 h1 hl1 hg1 hW1; have H1 := hid (HH.out.newBlk hW1 hg1 h1); clear h1 hl1 hg1 hW1) | (refine wpList_copyB rfl _ _ 42 42 rfl 5 Tryd.underlying42 be5.size g 0 64 64 K k.length kc rfl rfl (bv (List.replicate 64 0)) 5 H1.out.blk (bvL k) HMIN.out (src_all (HK.out _ H1.out.drop)) (by rw [bvL_len, bv_size, List.length_replicate]; omega) (bvL_one _) ?_; intro W2 hg2 hT2; rw [HPF.out] at hg2; have H2 := hid (H1.out.put hg2 hT2); clear hg2 hT2))
  go_loopw [13, 6] (fun iv _ X => ∃ (i : Nat) (l : List UInt8), iv = .int .i64 i ∧ i ≤ 64 ∧ Hid (Xord b i (fill64 k) l) ∧ Hid (St W0 (Blk g (bv l) 5 :: L) X)) (fun iv _ _ => 64 - (intOf iv).toNat)
  case atStart => exact ⟨0, fill64 k, by go_num, by omega, hid (Xord.start _ _), H2⟩
  case round =>
    clear H1 H2 HH
    obtain ⟨i, l, rfl, hi, HX, HS⟩ := hrel
    have i0 : (0 : Int) ≤ (i : Int) := by omega
    by_cases hlt : i < 64
    · have f1 : (i : Int) < 64 := by omega
      obtain ⟨x, hx⟩ : ∃ x, (fill64 k)[i]? = some x := ⟨_, List.getElem?_eq_getElem (by rw [HF.out]; omega)⟩
      have HST := hid (HX.out.step hx)
      have hc : wr.cell? ⟨g, i, none⟩ = some (.int .u8 x.toNat) := by
        rw [blk_cell HS.out]
        unfold bv
        rw [List.getElem?_toArray, List.getElem?_map, HX.out.rest i (Nat.le_refl _), hx]
        rfl
      have hf := frozen_of_row wr g i _ _ HS.out.blk
      have XB := u8_xor_b x b
      have HS2 := hid (HS.out.setCell i (.int .u8 (x ^^^ b).toNat))
      rw [bv_set] at HS2
      clear hx
      go_wp2_with fail
      go_roundw
      case rel => exact ⟨i + 1, l.set i (x ^^^ b), by go_num, by omega, HST, HS2⟩
      case measure => (simp [intOf] <;> omega)
    · have f1 : ¬ (i : Int) < 64 := by omega
      have HE := hid (HX.out.all (by rw [HF.out]; omega))
      go_wp2_with fail
      go_ret
      refine ⟨g, rfl, ?_⟩
      unfold padL
      rw [← HE.out]
      exact HS.out
end
end Go.Proofs.YtnakbdgoaepehaaDoor
/- Marks by a key. -/
namespace Go.Cu
open Go Go.RowKit
section
variable {P : Program} {t e : TypeId}
/-- A new slice of two elements. -/
theorem run_buildSlice2 {z : Value} {s : Nat} (ht : P.underlying t = some (.slice e)) (hz : ∀ W, (zeroValue e).run P W = .ok z W) (hi : (P.info? e).map (·.size) = some s) (h0 : 0 < s) (h24 : 2 * s ≤ 2 ^ 24)
    (a b : Value) (ha : a.cells.size = s) (hb : b.cells.size = s) (w : World) :
    (Instr.buildSlice t 2 #[(0, a), (1, b)]).run P w = .ok (.slice (some ⟨w.heap.size, 0, none⟩) 2 2) (w.alloc (.cells (a.cells ++ b.cells) e)) := by
  have hfill : ∀ c : Array Value, c.size = 2 * s → Instr.fill (fun i => some (i * s, s)) c [(0, a), (1, b)] = some (a.cells ++ b.cells) := by
    intro c hc
    rw [fill_one _ _ 0 0 s a _ (by simp) ha (by omega), fill_one _ _ 1 s s b _ (by simp) hb (by rw [putAt_size _ _ _ (by simp; omega)]; omega), Instr.fill]
    congr 1
    apply Array.ext'
    unfold putAt
    simp only [List.take_zero, List.nil_append, Nat.zero_add, Array.length_toList, Array.toList_append]
    rw [List.take_append_of_le_length (by simp; omega), List.take_of_length_le (by simp; omega), List.drop_of_length_le (by simp; omega), List.append_nil]
  unfold Instr.buildSlice
  have h1 : ¬ (2 * s > 2 ^ 24) := by omega
  have h2 : ¬ (2 * s = 0) := by omega
  simp only [Sem.run_bind, run_underlying ht, Result.andThen_ok, run_sizeOf hi]
  rw [if_neg h1, if_neg h2]
  simp only [Sem.run_bind, hz, Result.andThen_ok, Sem.run_pure]
  rw [hfill _ (by simp)]
  rfl
theorem wpList_buildSlice2 {ops : Array Oper} {rest : List Oper} {o : Oper} {a : Act} {w : World} {Q : Exit → Act → World → Prop} (ps : Array (Nat × Operand)) (ho : o.op = .buildSlice t 2 ps) (x y : Value) (hvs : (ps.map fun (i, y) => (i, a.eval y)) = #[(0, x), (1, y)])
    (hw : Region.wanted o (yielded ops a.tmps) = true) {z : Value} {s : Nat} (ht : P.underlying t = some (.slice e)) (hz : ∀ W, (zeroValue e).run P W = .ok z W) (hi : (P.info? e).map (·.size) = some s) (h0 : 0 < s) (h24 : 2 * s ≤ 2 ^ 24) (hx : x.cells.size = s) (hy : y.cells.size = s)
    (h : ∀ (g : Nat) (W : World), W.heap[g]? = some (.cells (x.cells ++ y.cells) e (0, 0)) → g < W.heap.size → w.heap.size ≤ g → Below w.heap.size w W → wpList P ops Q rest (a.put o.dst (.slice (some ⟨g, 0, none⟩) 2 2)) W) : wpList P ops Q (o :: rest) a w := by
  refine wpList_wanted hw fun K hK => ?_
  have hrun : (execOp a.eval o).run P w = .ok (.value (.slice (some ⟨w.heap.size, 0, none⟩) 2 2)) (w.alloc (.cells (x.cells ++ y.cells) e)) := by
    unfold execOp
    simp only [ho, hvs, Sem.run_bind, run_buildSlice2 ht hz hi h0 h24 x y hx hy w, Result.andThen_ok, Sem.run_pure]
  unfold Oper.wp
  rw [hrun]
  exact hK _ _ (h w.heap.size _ (heap_alloc_at _ _ rfl) (by simp) (Nat.le_refl _) ((Below.refl _ _).alloc (Nat.le_refl _) _))
end
section
variable {W0 W : World} {L : List Atm}
/-- A part: bytes that lie wherever L holds. -/
def Part (W0 : World) (L : List Atm) (v : Value) (b : List UInt8) : Prop := ∃ B cb, v = .slice B b.length cb ∧ b.length ≤ cb ∧ cb ≤ maxLen ∧ ∀ X, St W0 L X → BytesIn X B b
theorem Part.sub {v : Value} {b : List UInt8} {M : List Atm} (h : Part W0 L v b) (hs : ∀ X, St W0 M X → St W0 L X) : Part W0 M v b := by
  obtain ⟨B, cb, h1, h2, h3, h4⟩ := h
  exact ⟨B, cb, h1, h2, h3, fun X hX => h4 X (hs X hX)⟩
theorem Part.cons {v : Value} {b : List UInt8} {M : Atm} (h : Part W0 L v b) : Part W0 (M :: L) v b := h.sub fun _ hX => hX.drop
theorem parts1 {gs : Nat} {t : TypeId} {v : Value} {b : List UInt8} (h : Part W0 L v b) : PartsIn W0 (Blk gs #[v] t :: L) (some ⟨gs, 0, none⟩) [b] := fun i r hi => by
  match i with
  | i + 1 => cases hi
  | 0 =>
    obtain rfl : b = r := by simpa using hi
    obtain ⟨B, cb, rfl, h2, h3, h4⟩ := h
    exact ⟨gs, 0, B, cb, rfl, h2, h3, fun Y hY => ⟨(cell_of_row Y gs 0 _ _ _ hY.blk).trans rfl, h4 Y hY.drop⟩⟩
theorem parts2 {gs : Nat} {t : TypeId} {v v' : Value} {b b' : List UInt8} (h : Part W0 L v b) (h' : Part W0 L v' b') : PartsIn W0 (Blk gs (#[v] ++ #[v']) t :: L) (some ⟨gs, 0, none⟩) [b, b'] := fun i r hi => by
  match i with
  | i + 2 => cases hi
  | 0 =>
    obtain rfl : b = r := by simpa using hi
    obtain ⟨B, cb, rfl, h2, h3, h4⟩ := h
    exact ⟨gs, 0, B, cb, rfl, h2, h3, fun Y hY => ⟨(cell_of_row Y gs 0 _ _ _ hY.blk).trans rfl, h4 Y hY.drop⟩⟩
  | 1 =>
    obtain rfl : b' = r := by simpa using hi
    obtain ⟨B, cb, rfl, h2, h3, h4⟩ := h'
    exact ⟨gs, 0, B, cb, rfl, h2, h3, fun Y hY => ⟨(cell_of_row Y gs 1 _ _ _ hY.blk).trans rfl, h4 Y hY.drop⟩⟩
theorem blk_bytes {g : Nat} {r : List UInt8} {t : TypeId} (h : St W0 (Blk g (bv r) t :: L) W) : BytesIn W (some ⟨g, 0, none⟩) r := fun i b hi => by
  refine ⟨g, 0, rfl, heap_lt h.blk, ?_⟩
  rw [Nat.zero_add, cell_of_row W g i _ _ _ h.blk, bv_eq, List.getElem?_toArray]
  unfold bvL
  rw [List.getElem?_map, hi]
  rfl
theorem part_blk {g n : Nat} {r : List UInt8} {t : TypeId} (hn : r.length = n) (hm : n ≤ maxLen) : Part W0 (Blk g (bv r) t :: L) (.slice (some ⟨g, 0, none⟩) n n) r := by
  subst hn
  exact ⟨_, _, rfl, Nat.le_refl _, hm, fun X hX => blk_bytes hX⟩
end
/-- A mark of bytes by a key. -/
def hmacL (k d : List UInt8) : List UInt8 := sumL (padL k 0x5C ++ sumL (padL k 0x36 ++ d))
theorem padL_len {k : List UInt8} (h : k.length ≤ 64) (b : UInt8) : (padL k b).length = 64 := by
  unfold padL
  rw [List.length_map, fill64_len h]
end Go.Cu
namespace Go.Proofs.YtnakbdgoaepehaaDoor
open Go.RowKit Go.Cu
section
variable {W0 W : World} {L : List Atm}
set_option maxRecDepth 20000 in
set_option maxHeartbeats 8000000 in
theorem hof_st (h : St W0 L W) (hG : Glob W0) {K : Option Addr} {kc : Nat} {k : List UInt8} (hk : ∀ X, St W0 L X → BytesIn X K k) (hkl : k.length ≤ 64) {A : Option Addr} {c : Nat} {ps : List (List UInt8)} (hp : PartsIn W0 L A ps) (hps : ps.length ≤ 1000000) (hm : ps.flatten.length ≤ 100000000000) :
    Calls Tryd.prog 21 #[.slice K k.length kc, .slice A ps.length c] W fun x w' => x = .returned (.agg (bv (hmacL k ps.flatten))) ∧ St W0 L w' := by
  have HH := hid h
  have HP := hid hp
  have hki : ¬ (64 : Int) < (k.length : Int) := by omega
  have HN := hid (fun X (M : List Atm) (hX : St W0 M X) => hnew_st hX hG)
  have HPI := hid (fun X (M : List Atm) (hM : ∀ Y, St W0 M Y → St W0 L Y) (hX : St W0 M X) => show Calls Tryd.prog 43 #[.slice K k.length kc, .int .u8 54] X fun x w' => ∃ g, x = .returned (.slice (some ⟨g, 0, none⟩) 64 64) ∧ St W0 (Blk g (bv (padL k 0x36)) 5 :: M) w' from pad_st hX (fun Y hY => hk Y (hM Y hY)) hkl 0x36)
  have HPO := hid (fun X (M : List Atm) (hM : ∀ Y, St W0 M Y → St W0 L Y) (hX : St W0 M X) => show Calls Tryd.prog 43 #[.slice K k.length kc, .int .u8 92] X fun x w' => ∃ g, x = .returned (.slice (some ⟨g, 0, none⟩) 64 64) ∧ St W0 (Blk g (bv (padL k 0x5C)) 5 :: M) w' from pad_st hX (fun Y hY => hk Y (hM Y hY)) hkl 0x5C)
  have HPL := hid (padL_len hkl 0x36)
  have HPL2 := hid (padL_len hkl 0x5C)
  have HW := hid (fun X (M : List Atm) (g : Nat) (A1 : Option Addr) (c1 : Nat) (m : List UInt8) (hX : St W0 (Hashed g A1 c1 m M) X) (B : Option Addr) (n cb : Nat) (b : List UInt8) (hn : n = b.length) (hb : ∀ Y, St W0 M Y → BytesIn Y B b) (h1 : b.length ≤ cb) (h2 : cb ≤ maxLen) (h3 : m.length + b.length ≤ 1000000000000) => show Calls Tryd.prog 39 #[.pointer (some ⟨g, 0, none⟩), .slice B n cb] X fun x w' => x = .returned (.tuple #[]) ∧ ∃ A' c', St W0 (Hashed g A' c' (m ++ b) M) w' from hn ▸ hwrite_st hX hG hb h1 h2 h3)
  obtain ⟨s, hs⟩ : ∃ s, s = sumL (padL k 0x36 ++ ps.flatten) := ⟨_, rfl⟩
  have HSL := hid (show s.length = 32 by rw [hs]; exact sumL_len _)
  have HS := hid (fun X (M : List Atm) (g : Nat) (A1 : Option Addr) (c1 : Nat) (hX : St W0 (Hashed g A1 c1 (padL k 0x36 ++ ps.flatten) M) X) => show Calls Tryd.prog 40 #[.pointer (some ⟨g, 0, none⟩)] X fun x w' => x = .returned (.agg (bv s)) ∧ St W0 (Hashed g A1 c1 (padL k 0x36 ++ ps.flatten) M) w' from hs ▸ hsum_st hX hG (by rw [List.length_append, HPL.out]; omega))
  have HSH := hid (fun X (M : List Atm) (gs gq g9 : Nat) (hX : St W0 (Blk gs (#[.slice (some ⟨gq, 0, none⟩) 64 64] ++ #[.slice (some ⟨g9, 0, none⟩) 32 32]) 42 :: Blk gq (bv (padL k 0x5C)) 5 :: Blk g9 (bv s) 23 :: M) X) => show Calls Tryd.prog 16 #[.slice (some ⟨gs, 0, none⟩) 2 2] X fun x w' => x = .returned (.agg (bv (hmacL k ps.flatten))) ∧ St W0 (Blk gs (#[.slice (some ⟨gq, 0, none⟩) 64 64] ++ #[.slice (some ⟨g9, 0, none⟩) 32 32]) 42 :: Blk gq (bv (padL k 0x5C)) 5 :: Blk g9 (bv s) 23 :: M) w' from by
    have h1 := sha_st hX hG (c := 2) (parts2 (part_blk HPL2.out (by decide)) (part_blk HSL.out (by decide)).cons) (by simp) (by simp [HPL2.out, HSL.out])
    rw [show [padL k 0x5C, s].flatten = padL k 0x5C ++ s by simp] at h1
    unfold hmacL
    rw [← hs]
    exact h1)
  have HSZ := hid (show (bv s).size = 32 by rw [bv_size]; exact HSL.out)
  have HHZ := hid (show (bv (hmacL k ps.flatten)).size = 32 by rw [bv_size]; exact sumL_len _)
  have HZ32 := hid (show (bv (List.replicate 32 0)).size = 32 by rw [bv_size, List.length_replicate])
  clear h hG hk hp hs
  go_enter Tryd.func21, Tryd.ntmps21
  go_wp2_with (first | (refine wpList_alloc 23 rfl rfl (.agg (bv (List.replicate 32 0))) zero54s ?_; intro go W1 h1 hl1 hg1 hW1; have H1 := hid (HH.out.newBlk hW1 hg1 h1); clear h1 hl1 hg1 hW1) | (go_at_call 38; (with_reducible refine (HN.out _ _ H1.out).mono ?_); rintro x W2 ⟨g, rfl, h2⟩; have H2 := hid h2; clear h2) | (go_at_call 43; (with_reducible refine (HPI.out _ _ (fun _ hY => hY.drop.drop.drop) H2.out).mono ?_); rintro x W3 ⟨gp, rfl, h3⟩; have H3 := hid h3.back3; clear h3) | (go_at_call 39; (with_reducible refine (HW.out _ _ g _ _ _ H3.out _ _ _ (padL k 0x36) HPL.out.symm (fun _ hY => blk_bytes hY) (by rw [HPL.out]; exact Nat.le_refl _) (by decide) (by rw [HPL.out]; decide)).mono ?_); rintro x W4 ⟨rfl, A4, c4, h4⟩; rw [List.nil_append] at h4; have H4 := hid h4; clear h4))
  go_loopw [24, 8] (fun kv _ X => ∃ (i : Nat) (A1 : Option Addr) (c1 : Nat), i ≤ ps.length ∧ kv = .int .i64 i ∧ Hid (St W0 (Hashed g A1 c1 (padL k 0x36 ++ (ps.take i).flatten) (Blk gp (bv (padL k 0x36)) 5 :: Blk go (bv (List.replicate 32 0)) 23 :: L)) X)) (fun kv _ _ => ps.length - (intOf kv).toNat)
  case atStart => exact ⟨0, A4, c4, Nat.zero_le _, rfl, hid (by rw [List.take_zero, List.flatten_nil, List.append_nil]; exact H4.out)⟩
  case round =>
    clear H1 H2 H3 H4 HH
    obtain ⟨i, A1, c1, hi, rfl, HR⟩ := hrel
    have e0 : (0 : Int) ≤ (i : Int) := by omega
    by_cases hlt : i < ps.length
    · have e1 : (i : Int) < (ps.length : Int) := by omega
      obtain ⟨b, hb⟩ : ∃ b, ps[i]? = some b := ⟨_, List.getElem?_eq_getElem hlt⟩
      have HTF := hid (take_flat_step hb)
      have htl := take_flat_le ps (i + 1)
      rw [← HTF.out, List.length_append] at htl
      obtain ⟨ga, oa, B, cb, rfl, hc1, hc2, hX3⟩ := HP.out i b hb
      have cx := (hX3 _ HR.out.drop.drop.drop.drop).1
      have HX3 := hid (fun X hX => (hX3 X hX).2)
      clear hb hX3
      go_wp2_with (go_at_call 39; (with_reducible refine (HW.out _ _ g _ _ _ HR.out _ _ _ b rfl (fun _ hY => HX3.out _ hY.drop.drop) hc1 hc2 (by rw [List.length_append, HPL.out]; omega)).mono ?_); rintro x W4 ⟨rfl, A5, c5, h5⟩; rw [List.append_assoc, HTF.out] at h5; have H5 := hid h5; clear h5)
      go_roundw
      case rel => exact ⟨i + 1, A5, c5, by omega, by go_num, H5⟩
      case measure => (simp [intOf] <;> omega)
    · have e1 : ¬ (i : Int) < (ps.length : Int) := by omega
      obtain rfl : i = ps.length := by omega
      rw [List.take_length] at HR
      go_wp2_with (first | (go_at_call 40; (with_reducible refine (HS.out _ _ g A1 c1 HR.out).mono ?_); rintro x W5 ⟨rfl, h5⟩; have H5 := hid h5.drop.drop.drop; clear h5) | (refine wpList_alloc 23 rfl rfl (.agg (bv (List.replicate 32 0))) zero54s ?_; intro g9 W6 h1 hl1 hg1 hW1; have H6 := hid (H5.out.newBlk hW1 hg1 h1); clear h1 hl1 hg1 hW1) | (refine wpList_store_box 23 _ _ rfl g9 rfl rfl (bv s) rfl 32 size54s HSZ.out (bv_one _) 23 _ H6.out.blk HZ32.out ?_; intro W7 hB7 hT7 hs7; have H7 := hid (H6.out.put hB7 hT7); clear hB7 hT7 hs7))
      refine wp_region_ord [5] [(0, 1), (2, 1), (1, 2), (3, 2), (4, 2), (5, 2)] (fun X => St W0 (Blk g9 (bv s) 23 :: Blk go (bv (List.replicate 32 0)) 23 :: L) X) (by kernel_rfl) (by kernel_rfl) (fun d _ c _ _ h => by cases d <;> exact h) (H7.out.turn (Below.drew (Below.refl _ _))) (fun X hXe hX => ?_)
      clear hXe H5 H6 H7 HR
      repeat (first | (apply wpOrd_class; ((· first | (rw [List.getElem?_toArray, List.getElem?_cons_zero]; done) | (simp only [List.getElem?_toArray, List.getElem?_cons_succ, List.getElem?_cons_zero]; exact rfl))); (· exact rfl); intro K hK; apply Exists.intro; refine And.intro (fun X' hX' => ?_) ?_; (· go_simp; (try go_bits); first | done | exact rfl | exact ⟨rfl, rfl⟩); go_simp; refine hK _ _ ?_; clear hK K) | (apply wpOrd_skip1; ((· first | (rw [List.getElem?_toArray, List.getElem?_cons_zero]; done) | (simp only [List.getElem?_toArray, List.getElem?_cons_succ, List.getElem?_cons_zero]; exact rfl))); (· exact rfl); intro K hK; go_simp; refine hK _ _ ?_; clear hK K))
      (apply wpOrd_comes; ((· first | (rw [List.getElem?_toArray, List.getElem?_cons_zero]; done) | (simp only [List.getElem?_toArray, List.getElem?_cons_succ, List.getElem?_cons_zero]; exact rfl))); intro N hN)
      go_wp2_with (go_at_call 43; (with_reducible refine (HPO.out _ _ (fun _ hY => hY.drop.drop) hX).mono ?_); rintro x X1 ⟨gq, rfl, h1⟩)
      refine hN _ _ (fun _ => h1.drop) ?_
      clear hN N hX
      (apply wpOrd_comes; ((· first | (rw [List.getElem?_toArray, List.getElem?_cons_zero]; done) | (simp only [List.getElem?_toArray, List.getElem?_cons_succ, List.getElem?_cons_zero]; exact rfl))); intro N hN)
      go_wp2_with (refine wpList_buildSlice2 _ rfl (.slice (some ⟨gq, 0, none⟩) 64 64) (.slice (some ⟨g9, 0, none⟩) 32 32) (by simp [Act.eval]) rfl Tryd.underlying80 zeroBYs sizeBYs (by decide) (by decide) rfl rfl ?_; intro gs X4 hS hgs hges hX1b; have H4 := hid (show St W0 (Blk gs (#[.slice (some ⟨gq, 0, none⟩) 64 64] ++ #[.slice (some ⟨g9, 0, none⟩) 32 32]) 42 :: Blk gq (bv (padL k 0x5C)) 5 :: Blk g9 (bv s) 23 :: Blk go (bv (List.replicate 32 0)) 23 :: L) X4 from h1.newBlk hX1b hges hS); clear hS hgs hges hX1b h1)
      refine hN _ _ (fun _ => H4.out.drop.drop) ?_
      clear hN N
      (apply wpOrd_comes; ((· first | (rw [List.getElem?_toArray, List.getElem?_cons_zero]; done) | (simp only [List.getElem?_toArray, List.getElem?_cons_succ, List.getElem?_cons_zero]; exact rfl))); intro N hN)
      go_wp2_with (go_at_call 16; (with_reducible refine (HSH.out _ _ gs gq g9 H4.out).mono ?_); rintro x X5 ⟨rfl, h5⟩)
      refine hN _ _ (fun _ => h5.drop.drop) ?_
      clear hN N H4
      have H5 := hid h5.drop.drop.drop
      clear h5
      (apply wpOrd_comes; ((· first | (rw [List.getElem?_toArray, List.getElem?_cons_zero]; done) | (simp only [List.getElem?_toArray, List.getElem?_cons_succ, List.getElem?_cons_zero]; exact rfl))); intro N hN)
      go_wp2_with (refine wpList_store_box 23 _ _ rfl go rfl rfl (bv (hmacL k ps.flatten)) rfl 32 size54s HHZ.out (bv_one _) 23 _ H5.out.blk HZ32.out ?_; intro W7 hB7 hT7 hs7; have H7 := hid (H5.out.put hB7 hT7))
      refine hN _ _ (fun e => by cases e) ?_
      clear hN N
      refine wpOrd_done ?_
      go_wp2
      exact bodyPost_ret (results_cell rfl _ _ _ go 23 (bv _) (0, 0) rfl hB7 Tryd.underlying23 (by rw [HHZ.out]; exact size54s)) rfl ⟨rfl, H7.out.drop⟩
end
end Go.Proofs.YtnakbdgoaepehaaDoor
/- An order of one's own with one fork: two that turn the world may come in either order. -/
namespace Go.Cu
open Go Go.RowKit
section
variable {P : Program} {ops : Array Oper} {Q : Exit → Act → World → Prop} {md : Region.Mode} {S : World → Prop} {loose : List Nat}
theorem Qn_Qn (F N : Act → World → Prop) : Qn (Qn Q F) N = Qn Q N := by
  funext x a w
  cases x <;> rfl
def ordrF (md : Region.Mode) (ops : Array Oper) (loose : List Nat) (E : Bool → Array Bool → Bool) : List (Nat × Nat) → Bool → Array Bool → Bool
  | [], s, listed => E s listed
  | (i, 0) :: r, s, listed => loose.contains i && (Region.ready md ops listed).contains i && Region.free md ops listed i && ordrF md ops loose E r s (listed.setIfInBounds i true)
  | (i, 1) :: r, s, listed => s && (Region.ready md ops listed).contains i && Region.free md ops listed i && waitB md ops i (waitOf md ops i) &&
      ((List.range ops.size).all fun j => listed.getD j true || j == i || !loose.contains j || (waitOf md ops i).contains j) && ordrF md ops loose E r s (listed.setIfInBounds i true)
  | (i, _ + 2) :: r, _, listed => decide (Region.ready md ops listed = [i]) && ordrF md ops loose E r (!loose.contains i) (listed.setIfInBounds i true)

theorem wpAnyN_of_ordF (hsel : Region.noSelect ops = true) (hQ : ∀ (d : Option Tmp) (v : Value) c a w, Q (.panic c) (a.put d v) w → Q (.panic c) a w)
    {F : Act → World → Prop} {E : Bool → Array Bool → Bool} {n : Nat} (hE : ∀ s listed a w, OInv md ops listed → E s listed = true → (s = true → S w) → F a w → wpAnyN P md ops Q S loose n listed a w) :
    ∀ (l : List (Nat × Nat)) (s : Bool) (listed : Array Bool) (a : Act) (w : World), OInv md ops listed → ordrF md ops loose E l s listed = true → (s = true → S w) → wpOrd P ops (Qn Q F) S loose l a w → wpAnyN P md ops Q S loose (n + l.length) listed a w
  | [], s, listed, a, w, inv, hB, hS, h => hE s listed a w inv (by simpa [ordrF] using hB) hS h
  | (i, 0) :: r, s, listed, a, w, inv, hB, hS, h => by
    simp only [ordrF, Bool.and_eq_true] at hB
    obtain ⟨⟨⟨hl, hr⟩, hf⟩, hB'⟩ := hB
    obtain ⟨o, ho, v, hy, hK⟩ := h
    have hr' : i ∈ Region.ready md ops listed := by simpa using hr
    exact wpAnyN_pure ho (Region.noSelect_spec hsel) (fun c a w => hQ _ _ c a w) hl _ listed a w (Region.free_spec ho hf) hr' hy (wpAnyN_of_ordF hsel hQ hE r s _ _ w (inv.set hr') hB' hS hK)
  | (i, 1) :: r, s, listed, a, w, inv, hB, hS, h => by
    simp only [ordrF, Bool.and_eq_true] at hB
    obtain ⟨⟨⟨⟨⟨hs, hr⟩, hf⟩, hD⟩, hn⟩, hB'⟩ := hB
    obtain ⟨o, ho, v, hy, hK⟩ := h
    have hr' : i ∈ Region.ready md ops listed := by simpa using hr
    refine wpAnyN_first ho (Region.noSelect_spec hsel) hD (fun c a w => hQ _ _ c a w) _ listed a w inv (fun j hj hun hji hlo => ?_) (Region.free_spec ho hf) hr' hy (hS hs) (wpAnyN_of_ordF hsel hQ hE r s _ _ w (inv.set hr') hB' hS hK)
    have h1 := List.all_eq_true.1 hn j (List.mem_range.2 hj)
    simp only [Bool.or_eq_true, beq_iff_eq, hun, hji, hlo, Bool.not_true, Bool.false_eq_true, false_or] at h1
    simpa using h1
  | (i, k + 2) :: r, s, listed, a, w, inv, hB, hS, h => by
    simp only [ordrF, Bool.and_eq_true, decide_eq_true_eq] at hB
    obtain ⟨hr, hB'⟩ := hB
    obtain ⟨o, ho, h⟩ := h
    rw [Qn_Qn] at h
    refine ⟨fun h1 => (by rw [hr] at h1; cases h1), fun j hj => ?_⟩
    have hji : j = i := by rw [hr] at hj; simpa using hj
    subst hji
    refine wpOp_mono (fun a' w' h' => ⟨h'.1, wpAnyN_of_ordF hsel hQ hE r _ _ a' w' (inv.set hj) hB' (fun hs => h'.1 (by simpa using hs)) h'.2⟩) (wpOp_of_one ho h)

/-- Behind the order l one of i and j comes, and then its own order. -/
def forkB (ops : Array Oper) (loose : List Nat) (i j : Nat) (li lj : List (Nat × Nat)) (_ : Bool) (listed : Array Bool) : Bool :=
  decide (Region.ready .any ops listed = [i, j]) && ordrF .any ops loose (fun _ l => (Region.ready .any ops l).isEmpty) li (!loose.contains i) (listed.setIfInBounds i true) &&
    ordrF .any ops loose (fun _ l => (Region.ready .any ops l).isEmpty) lj (!loose.contains j) (listed.setIfInBounds j true)
def Forked (P : Program) (ops : Array Oper) (Q : Exit → Act → World → Prop) (S : World → Prop) (loose : List Nat) (i j : Nat) (li lj : List (Nat × Nat)) (a : Act) (w : World) : Prop :=
  wpOrd P ops Q S loose ((i, 2) :: li) a w ∧ wpOrd P ops Q S loose ((j, 2) :: lj) a w
theorem wp_region_fork {id : Nat} {a : Act} {w : World} {l : List Oper} {A : Nat → Act} (loose : List Nat) (order : List (Nat × Nat)) (i j : Nat) (li lj : List (Nat × Nat)) (S : World → Prop) (R : Nat → World → Prop) (hm : P.follows .mixedOrders = true)
    (hB : (Region.noSelect l.toArray && decide (order.length + li.length + 1 = l.toArray.size) && decide (li.length = lj.length) && ordrF .any l.toArray loose (forkB l.toArray loose i j li lj) order true (Array.replicate l.toArray.size false)) = true)
    (hQ : ∀ (d : Option Tmp) (v : Value) c a w, Q (.panic c) (a.put d v) w → Q (.panic c) a w) (hS : S w.drew)
    (h : ∀ X, S X → wpOrd P l.toArray (Qn Q (Forked P l.toArray (Qn Q fun a w => ∃ g, R g w ∧ a = A g) S loose i j li lj)) S loose order a X)
    (hC : ∀ g w, R g w → Q .normal (A g) w) : (Code.region id l.toArray true).wp P Q a w := by
  simp only [Bool.and_eq_true, decide_eq_true_eq] at hB
  obtain ⟨⟨⟨hsel, hlen⟩, hl2⟩, hb⟩ := hB
  refine wp_region_any hm ?_
  have hend : ∀ (s : Bool) (listed : Array Bool) (a : Act) (w : World), OInv .any l.toArray listed → (Region.ready .any l.toArray listed).isEmpty = true → (s = true → S w) → (∃ g, R g w ∧ a = A g) → wpAnyN P .any l.toArray Q S loose 0 listed a w := by
    rintro s listed a w _ hE _ ⟨g, hg, rfl⟩
    exact ⟨by simpa using hE, hC g w hg⟩
  have hfork : ∀ (s : Bool) (listed : Array Bool) (a : Act) (w : World), OInv .any l.toArray listed → forkB l.toArray loose i j li lj s listed = true → (s = true → S w) → Forked P l.toArray (Qn Q fun a w => ∃ g, R g w ∧ a = A g) S loose i j li lj a w → wpAnyN P .any l.toArray Q S loose (0 + li.length + 1) listed a w := by
    rintro s listed a w inv hE _ ⟨⟨oi, hoi, h1⟩, ⟨oj, hoj, h2⟩⟩
    simp only [forkB, Bool.and_eq_true, decide_eq_true_eq] at hE
    obtain ⟨⟨hr, hi⟩, hj⟩ := hE
    rw [Qn_Qn] at h1 h2
    refine ⟨fun h1 => (by rw [hr] at h1; cases h1), fun k hk => ?_⟩
    have hkk : k = i ∨ k = j := by rw [hr] at hk; simpa using hk
    rcases hkk with rfl | rfl
    · exact wpOp_mono (fun a' w' h' => ⟨h'.1, wpAnyN_of_ordF hsel hQ hend li _ _ a' w' (inv.set hk) hi (fun hs => h'.1 (by simpa using hs)) h'.2⟩) (wpOp_of_one hoi h1)
    · rw [hl2]
      exact wpOp_mono (fun a' w' h' => ⟨h'.1, wpAnyN_of_ordF hsel hQ hend lj _ _ a' w' (inv.set hk) hj (fun hs => h'.1 (by simpa using hs)) h'.2⟩) (wpOp_of_one hoj h2)
  have := wpAnyN_of_ordF (md := .any) (S := S) hsel hQ hfork order true _ a w.drew OInv.start hb (fun _ => hS) (h _ hS)
  rw [show 0 + li.length + 1 + order.length = l.toArray.size by omega] at this
  exact wpAny_of_N _ _ _ _ this
theorem wpFork_done {a : Act} {w : World} {F : Act → World → Prop} (h : F a w) : wpOrd P ops (Qn Q F) S loose [] a w := h
end
end Go.Cu
/- An order of one's own, and blocks of operations that may come in any order that their edges allow: each keeps what is held of those that came. -/
namespace Go.Cu
open Go Go.RowKit
section
variable {P : Program} {ops : Array Oper} {Q : Exit → Act → World → Prop} {S : World → Prop} {loose : List Nat}
/-- So many steps inside the block B, and then E. -/
def bulkB (ops : Array Oper) (loose : List Nat) (B : List (Nat × List Nat)) (E : Bool → Array Bool → Bool) : Nat → Bool → Array Bool → Bool
  | 0, s, listed => (B.all fun p => listed.getD p.1 false) && E s listed
  | m + 1, _, listed => !(Region.ready .any ops listed).isEmpty && (Region.ready .any ops listed).all fun i =>
      match B.find? (fun p => p.1 == i) with
      | some p => (p.2.all fun d => listed.getD d false) && bulkB ops loose B E m (!loose.contains i) (listed.setIfInBounds i true)
      | none => false
def bulkE (ops : Array Oper) (loose : List Nat) (B : List (Nat × List Nat)) (E : Bool → Array Bool → Bool) (s : Bool) (listed : Array Bool) : Bool :=
  (B.all fun p => !listed.getD p.1 false) && bulkB ops loose B E B.length s listed
/-- What a block asks: J holds where none came; each keeps it; where all came F holds. -/
def BulkF (P : Program) (ops : Array Oper) (Q : Exit → Act → World → Prop) (S : World → Prop) (loose : List Nat) (B : List (Nat × List Nat)) (F : Act → World → Prop) (a : Act) (w : World) : Prop :=
  ∃ J : (Nat → Bool) → Act → World → Prop, (∀ done, (∀ p ∈ B, done p.1 = false) → J done a w) ∧
    (∀ p ∈ B, ∀ done a w, done p.1 = false → (∀ d ∈ p.2, done d = true) → J done a w → ∃ o, ops[p.1]? = some o ∧ wpList P ops (Qn Q fun a' w' => (loose.contains p.1 = false → S w') ∧ J (fun k => k == p.1 || done k) a' w') [o] a w) ∧
    (∀ done a w, (∀ p ∈ B, done p.1 = true) → J done a w → F a w)
theorem wpAnyN_bulk {B : List (Nat × List Nat)} {F : Act → World → Prop} {E : Bool → Array Bool → Bool} {n : Nat}
    (hF : ∀ s listed a w, OInv .any ops listed → E s listed = true → (s = true → S w) → F a w → wpAnyN P .any ops Q S loose n listed a w)
    (s : Bool) (listed : Array Bool) (a : Act) (w : World) (inv : OInv .any ops listed) (hB : bulkE ops loose B E s listed = true) (hS : s = true → S w) (h : BulkF P ops Q S loose B F a w) : wpAnyN P .any ops Q S loose (n + B.length) listed a w := by
  obtain ⟨J, h0, hop, hend⟩ := h
  simp only [bulkE, Bool.and_eq_true, List.all_eq_true, Bool.not_eq_true'] at hB
  have hJ0 := h0 (fun k => listed.getD k false) hB.1
  have key : ∀ (m : Nat) (s : Bool) (listed : Array Bool) (a : Act) (w : World), OInv .any ops listed → bulkB ops loose B E m s listed = true → (s = true → S w) → J (fun k => listed.getD k false) a w → wpAnyN P .any ops Q S loose (n + m) listed a w := by
    intro m
    induction m with
    | zero =>
      intro s listed a w inv hb hS hJ
      simp only [bulkB, Bool.and_eq_true, List.all_eq_true] at hb
      exact hF s listed a w inv hb.2 hS (hend _ a w hb.1 hJ)
    | succ m ih =>
      intro s listed a w inv hb hS hJ
      simp only [bulkB, Bool.and_eq_true, Bool.not_eq_true'] at hb
      obtain ⟨hne, hall⟩ := hb
      refine ⟨fun h1 => (by rw [h1] at hne; cases hne), fun i hi => ?_⟩
      have h1 := List.all_eq_true.1 hall i hi
      split at h1
      · rename_i p hp
        have hpi : p.1 = i := by simpa using List.find?_some hp
        have hpm : p ∈ B := List.mem_of_find?_eq_some hp
        simp only [Bool.and_eq_true, List.all_eq_true] at h1
        obtain ⟨hun, oi, hoi, _⟩ := mem_ready.1 hi
        have hnd : listed.getD i false = false := by
          cases hx : listed.getD i false with
          | false => rfl
          | true =>
            rw [getD_both hun] at hx
            cases hx
        subst hpi
        obtain ⟨o, ho, hw⟩ := hop p hpm (fun k => listed.getD k false) a w hnd h1.1 hJ
        refine wpOp_mono (fun a' w' h' => ⟨h'.1, ih _ _ a' w' (inv.set hi) h1.2 (fun hs => h'.1 (by simpa using hs)) ?_⟩) (wpOp_of_one ho hw)
        have hlt : p.1 < listed.size := by rw [inv.size]; exact (Array.getElem?_eq_some_iff.1 hoi).1
        have e : (fun k => (listed.setIfInBounds p.1 true).getD k false) = fun k => k == p.1 || listed.getD k false := by
          funext k
          by_cases hk : p.1 = k
          · subst hk
            simp [Array.getD_eq_getD_getElem?, hlt]
          · rw [getD_set_ne false hk]
            have : (k == p.1) = false := by simpa using fun e => hk e.symm
            rw [this, Bool.false_or]
        rw [e]
        exact h'.2
      · cases h1
  exact key B.length s listed a w inv hB.2 hS hJ0
theorem bulk_intro {B : List (Nat × List Nat)} {F : Act → World → Prop} {a : Act} {w : World} (J : Act → (Nat → Bool) → Act → World → Prop) (h0 : ∀ done, (∀ p ∈ B, done p.1 = false) → J a done a w)
    (hop : ∀ p ∈ B, ∀ done a' w', done p.1 = false → (∀ d ∈ p.2, done d = true) → J a done a' w' → ∃ o, ops[p.1]? = some o ∧ ∀ N : Act → World → Prop, (∀ a2 w2, (loose.contains p.1 = false → S w2) → J a (fun k => k == p.1 || done k) a2 w2 → N a2 w2) → wpList P ops (Qn Q N) [o] a' w')
    (hend : ∀ done a' w', (∀ p ∈ B, done p.1 = true) → J a done a' w' → F a' w') : BulkF P ops Q S loose B F a w :=
  ⟨J a, h0, fun p hp done a' w' h1 h2 h3 => by
    obtain ⟨o, ho, hw⟩ := hop p hp done a' w' h1 h2 h3
    exact ⟨o, ho, hw _ fun a2 w2 h4 h5 => ⟨h4, h5⟩⟩, hend⟩
def endB (ops : Array Oper) (_ : Bool) (listed : Array Bool) : Bool := (Region.ready .any ops listed).isEmpty
/-- An order, a block, an order. -/
theorem wp_region_bulk1 {id : Nat} {a : Act} {w : World} {l : List Oper} (loose : List Nat) (l1 : List (Nat × Nat)) (B1 : List (Nat × List Nat)) (l2 : List (Nat × Nat)) (S : World → Prop) (hm : P.follows .mixedOrders = true)
    (hB : (Region.noSelect l.toArray && decide (0 + l2.length + B1.length + l1.length = l.toArray.size) && ordrF .any l.toArray loose (bulkE l.toArray loose B1 (ordrF .any l.toArray loose (endB l.toArray) l2)) l1 true (Array.replicate l.toArray.size false)) = true)
    (hQ : ∀ (d : Option Tmp) (v : Value) c a w, Q (.panic c) (a.put d v) w → Q (.panic c) a w) (hS : S w.drew)
    (h : ∀ X, X = w.drew → S X → wpOrd P l.toArray (Qn Q (BulkF P l.toArray Q S loose B1 (wpOrd P l.toArray (Qn Q fun a w => Q .normal a w) S loose l2))) S loose l1 a X) : (Code.region id l.toArray true).wp P Q a w := by
  simp only [Bool.and_eq_true, decide_eq_true_eq] at hB
  obtain ⟨⟨hsel, hlen⟩, hb⟩ := hB
  refine wp_region_any hm ?_
  have hend : ∀ (s : Bool) (listed : Array Bool) (a : Act) (w : World), OInv .any l.toArray listed → endB l.toArray s listed = true → (s = true → S w) → Q .normal a w → wpAnyN P .any l.toArray Q S loose 0 listed a w := by
    intro s listed a w _ hE _ hq
    unfold endB at hE
    exact ⟨by simpa using hE, hq⟩
  have h2 := fun s listed a w inv => wpAnyN_of_ordF (S := S) hsel hQ hend l2 s listed a w inv
  have hb1 := fun s listed a w inv => wpAnyN_bulk (B := B1) h2 s listed a w inv
  have := wpAnyN_of_ordF (md := .any) (S := S) hsel hQ hb1 l1 true _ a w.drew OInv.start hb (fun _ => hS) (h _ rfl hS)
  rw [hlen] at this
  exact wpAny_of_N _ _ _ _ this
/-- An order, a block, an order, a block, an order. -/
theorem wp_region_bulk2 {id : Nat} {a : Act} {w : World} {l : List Oper} (loose : List Nat) (l1 : List (Nat × Nat)) (B1 : List (Nat × List Nat)) (l2 : List (Nat × Nat)) (B2 : List (Nat × List Nat)) (l3 : List (Nat × Nat)) (S : World → Prop) (hm : P.follows .mixedOrders = true)
    (hB : (Region.noSelect l.toArray && decide (0 + l3.length + B2.length + l2.length + B1.length + l1.length = l.toArray.size) && ordrF .any l.toArray loose (bulkE l.toArray loose B1 (ordrF .any l.toArray loose (bulkE l.toArray loose B2 (ordrF .any l.toArray loose (endB l.toArray) l3)) l2)) l1 true (Array.replicate l.toArray.size false)) = true)
    (hQ : ∀ (d : Option Tmp) (v : Value) c a w, Q (.panic c) (a.put d v) w → Q (.panic c) a w) (hS : S w.drew)
    (h : ∀ X, X = w.drew → S X → wpOrd P l.toArray (Qn Q (BulkF P l.toArray Q S loose B1 (wpOrd P l.toArray (Qn Q (BulkF P l.toArray Q S loose B2 (wpOrd P l.toArray (Qn Q fun a w => Q .normal a w) S loose l3))) S loose l2))) S loose l1 a X) : (Code.region id l.toArray true).wp P Q a w := by
  simp only [Bool.and_eq_true, decide_eq_true_eq] at hB
  obtain ⟨⟨hsel, hlen⟩, hb⟩ := hB
  refine wp_region_any hm ?_
  have hend : ∀ (s : Bool) (listed : Array Bool) (a : Act) (w : World), OInv .any l.toArray listed → endB l.toArray s listed = true → (s = true → S w) → Q .normal a w → wpAnyN P .any l.toArray Q S loose 0 listed a w := by
    intro s listed a w _ hE _ hq
    unfold endB at hE
    exact ⟨by simpa using hE, hq⟩
  have h3 := fun s listed a w inv => wpAnyN_of_ordF (S := S) hsel hQ hend l3 s listed a w inv
  have hb2 := fun s listed a w inv => wpAnyN_bulk (B := B2) h3 s listed a w inv
  have h2 := fun s listed a w inv => wpAnyN_of_ordF (S := S) hsel hQ hb2 l2 s listed a w inv
  have hb1 := fun s listed a w inv => wpAnyN_bulk (B := B1) h2 s listed a w inv
  have := wpAnyN_of_ordF (md := .any) (S := S) hsel hQ hb1 l1 true _ a w.drew OInv.start hb (fun _ => hS) (h _ rfl hS)
  rw [hlen] at this
  exact wpAny_of_N _ _ _ _ this
theorem wpOrd_to {F : Act → World → Prop} {a : Act} {w : World} (h : F a w) : wpOrd P ops (Qn Q F) S loose [] a w := h
end
end Go.Cu
