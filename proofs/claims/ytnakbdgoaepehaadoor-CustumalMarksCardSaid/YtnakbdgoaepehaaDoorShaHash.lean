/- New and Write of a sum. -/
import Derived.Test.YtnakbdgoaepehaaDoorShaMem
namespace Go.Cu
open Go Go.RowKit
theorem wpList_append_full {P : Program} {ops : Array Oper} {rest : List Oper} {o : Oper} {a : Act} {w : World} {Q : Exit → Act → World → Prop} (s x : Operand) (t : TypeId)
    (ho : o.op = .call { callee := .builtin .append, args := #[s, x], argTypes := #[t, t] }) (A : Option Addr) (r : List UInt8) (hs : a.eval s = .slice A r.length r.length) (B : Option Addr) (c : Nat) (b : List UInt8) (hx : a.eval x = .slice B b.length c) (hw : Region.wanted o (yielded ops a.tmps) = true)
    (e : TypeId) (i : TypeInfo) (ht : P.underlying t = some (.slice e)) (hi : P.info? e = some i) (hz : i.zero = some (.int .u8 0)) (hsize : i.size = 1) (hby : i.bytes = 1)
    (hr : BytesIn w A r) (hb : BytesIn w B b) (h63 : r.length + b.length ≤ 140737488355328) (n : Nat) (hn : n = (r ++ b).length)
    (h : ∀ A' c' w', (∀ W0 L c0, r.length ≤ c0 → c0 ≤ maxLen → St W0 (Vals [.slice A r.length c0] [r] :: L) w → St W0 (Vals [.slice A' n c'] [r ++ b] :: L) w') → wpList P ops Q rest (a.put o.dst (.slice A' n c')) w') : wpList P ops Q (o :: rest) a w := by
  subst hn
  refine wpList_wanted hw fun K hK => ?_
  obtain ⟨A', c', w', hrun, hk⟩ := run_append_full (P := P) (w := w) t o.type e i ht hi hz hsize hby A r hr B c b hb h63
  unfold Oper.wp execOp
  simp only [ho, resolve, invoke, builtin, Sem.run_bind, Sem.run_pure, Result.andThen_ok, List.map_toArray, List.map_cons, List.map_nil, hs, hx, hrun]
  exact hK _ _ (h A' c' w' hk)
end Go.Cu
namespace Go.Proofs.YtnakbdgoaepehaaDoor
open Go.RowKit Go.Cu
@[go_sem ↓] theorem bdktHASH (a : Act) (dst : Option Tmp) (ps : Array (Nat × Operand)) (ty : TypeId) (pos : String) (after : Array Edge) (guard : Option (Nat × Bool)) :
    execOp a.eval { dst, op := .build 111 ps, type := ty, pos, after, guard } = buildK 111 (ps.map fun (i, x) => (i, a.eval x)) := rfl
set_option maxRecDepth 20000 in
theorem buildHash (W : World) : (Instr.build 111 #[(0, .agg (w32 startL))]).run Tryd.prog W = .ok (.agg (hashV startL (.slice none 0 0) 0)) W := by kernel_rfl
section
variable {W0 W : World} {L : List Atm}
/-- A sum that goes on, behind a message. -/
abbrev Hashed (g : Nat) (A : Option Addr) (c : Nat) (m : List UInt8) (L : List Atm) : List Atm := Blk g (hashV (wordsOf m) (.slice A (restOf m).length c) m.length) 111 :: Vals [.slice A (restOf m).length c] [restOf m] :: L
theorem hnew_st (h : St W0 L W) (hG : Glob W0) : Calls Tryd.prog 38 #[] W fun r w' => ∃ g, r = .returned (.pointer (some ⟨g, 0, none⟩)) ∧ St W0 (Hashed g none 0 [] L) w' := by
  have HH := hid h
  obtain ⟨t0, f0, _, _, h0, _⟩ := hG.below h.below hG.two
  have LG : (loadK 109 (.pointer (some ⟨1, 0, none⟩))).run Tryd.prog W = .ok (.value (.agg (w32 startL))) W := run_loadK_box h0 Tryd.underlying109 rfl size8w rfl
  have BB := fun W => run_buildK (buildHash W)
  clear h hG h0
  go_enter Tryd.func38, Tryd.ntmps38
  go_wp2_with (refine wpList_box rfl 111 _ rfl (.agg (hashV startL (.slice none 0 0) 0)) rfl ?_; intro gh W1 h1 hl1 hg1 hW1; have H1 := hid (HH.out.newBlk hW1 hg1 h1); clear h1 hl1 hg1 hW1)
  go_ret
  refine ⟨gh, rfl, ?_⟩
  have h2 : St W0 (Vals [.slice none 0 0] [[]] :: Blk gh (hashV startL (.slice none 0 0) 0) 111 :: L) W1 := H1.out.push (Below.refl _ _) ⟨rfl, fun i r hi => by
    match i with
    | i + 1 => cases hi
    | 0 =>
      obtain rfl : [] = r := by simpa using hi
      exact ⟨none, 0, rfl, Nat.le_refl _, Nat.zero_le _, fun k b hb => by cases hb⟩⟩
  exact h2.at2
theorem vals_one {A : Option Addr} {c n : Nat} {r : List UInt8} {X : World} (h : St W0 (Vals [.slice A n c] [r] :: L) X) (_hn : n = r.length) : BytesIn X A r ∧ r.length ≤ c ∧ c ≤ maxLen := by
  obtain ⟨A', c', e1, h1, h2, hb⟩ := h.vals.2 0 r rfl
  have e2 : Value.slice A n c = .slice A' r.length c' := Option.some.inj e1
  injection e2 with e3 _ e4
  subst e3 e4
  exact ⟨hb.bytes, h1, h2⟩
set_option maxRecDepth 20000 in
set_option maxHeartbeats 8000000 in
theorem hwrite_st {g : Nat} {A : Option Addr} {c : Nat} {m : List UInt8} (h : St W0 (Hashed g A c m L) W) (hG : Glob W0) {B : Option Addr} {cb : Nat} {b : List UInt8} (hb : ∀ X, St W0 L X → BytesIn X B b) (hbc : b.length ≤ cb) (hcb : cb ≤ maxLen) (hmb : m.length + b.length ≤ 1000000000000) :
    Calls Tryd.prog 39 #[.pointer (some ⟨g, 0, none⟩), .slice B b.length cb] W fun x w' => x = .returned (.tuple #[]) ∧ ∃ A' c', St W0 (Hashed g A' c' (m ++ b) L) w' := by
  obtain ⟨r, hr⟩ : ∃ r, r = restOf m := ⟨_, rfl⟩
  obtain ⟨ws, hws⟩ : ∃ ws, ws = wordsOf m := ⟨_, rfl⟩
  have HW8 := hid (show ws.length = 8 by rw [hws]; exact wordsOf_len m)
  have hrl : r.length < 64 := by rw [hr, restOf_len]; omega
  have HMW := hid (show wordsOf (m ++ b) = absorbTo ws (r ++ b) ((r ++ b).length / 64) by rw [hws, hr]; exact wordsOf_more m b)
  have HMR := hid (show restOf (m ++ b) = (r ++ b).drop (64 * ((r ++ b).length / 64)) by rw [hr]; exact restOf_more m b)
  have HH := hid (show St W0 (Blk g (hashV ws (.slice A r.length c) m.length) 111 :: Vals [.slice A r.length c] [r] :: L) W from by rw [hws, hr]; exact h)
  obtain ⟨hrb, hrc, hrm⟩ := vals_one HH.out.at2 rfl
  have HRB := hid (show ∀ X M, St W0 (Vals [.slice A r.length c] [r] :: M) X → BytesIn X A r from fun X M hX => (vals_one hX rfl).1)
  have HB := hid hb
  have HG := hid hG
  obtain ⟨i5, hi, hiz, his, hib⟩ := info_parts info5
  have HI := hid (And.intro hi (And.intro hiz (And.intro his hib)))
  obtain ⟨n1, hn1⟩ : ∃ n, n = m.length := ⟨_, rfl⟩
  obtain ⟨n2, hn2⟩ : ∃ n, n = n1 + b.length := ⟨_, rfl⟩
  have HN := hid (show (m ++ b).length = n2 by rw [List.length_append, hn2, hn1])
  rw [← hn1] at HH
  have y9 : W.cell? ⟨g, 9, none⟩ = some (.int .i64 n1) := (cell_of_row W g 9 _ _ _ HH.out.blk).trans (hashV_n HW8.out _ _)
  have f9 := frozen_of_row W g 9 _ _ HH.out.blk
  have hcbi : (r.length : Int) ≤ (c : Int) := by omega
  have HN2 := hid hn2
  unfold maxLen at hcb hrm
  clear h hb hG hi hiz his hib hr hws hrb hn1
  have hnn : (n1 : Int) + (b.length : Int) = (n2 : Int) := by omega
  have hn2b : n2 ≤ 1000000000000 := by have := HN.out; rw [List.length_append] at this; omega
  clear hn2
  obtain ⟨all, hall⟩ : ∃ all, all = r ++ b := ⟨_, rfl⟩
  obtain ⟨na, hna⟩ : ∃ n, n = (r ++ b).length := ⟨_, rfl⟩
  have HNA := hid (show na = all.length by rw [hna, hall])
  have HNB := hid hna
  have HAL := hid (show all.length ≤ 1000000000100 by rw [hall, List.length_append]; have := HN2.out; omega)
  rw [← hall] at HMW HMR
  have HALL := hid hall
  clear hall hna
  go_enter Tryd.func39, Tryd.ntmps39
  go_upto_region 2 with fail
  have h1 := HH.out.setCell 9 (.int .i64 n2)
  rw [hashV_set9 HW8.out] at h1
  have H1 := hid h1
  clear h1 y9 f9 HH
  obtain ⟨X1, hX1⟩ : ∃ X1, X1 = W.setCell ⟨g, 9, none⟩ (.int .i64 n2) := ⟨_, rfl⟩
  rw [← hX1] at H1 ⊢
  clear hX1
  have HC := hid (show ∀ X, St W0 (Blk g (hashV ws (.slice A r.length c) n2) 111 :: Vals [.slice A r.length c] [r] :: L) X → X.cell? ⟨g, 8, none⟩ = some (.slice A r.length c) from fun X hX => (cell_of_row X g 8 _ _ _ hX.blk).trans (hashV_rest HW8.out _ _))
  refine wp_region_ord [16, 17] [(0, 1), (1, 1), (2, 1), (3, 1), (4, 1), (5, 1), (6, 1), (7, 1), (8, 1), (9, 1), (10, 1), (11, 1), (12, 1), (13, 1), (14, 1), (15, 1), (16, 2), (17, 0)] (fun X => St W0 (Blk g (hashV ws (.slice A r.length c) n2) 111 :: Vals [.slice A r.length c] [r] :: L) X) (by kernel_rfl) (by kernel_rfl) (fun d _ c _ _ h => by cases d <;> exact h) (H1.out.turn (Below.drew (Below.refl _ _))) (fun X hXe hX => ?_)
  clear hXe H1
  repeat (apply wpOrd_class; ((· first | (rw [List.getElem?_toArray, List.getElem?_cons_zero]; done) | (simp only [List.getElem?_toArray, List.getElem?_cons_succ, List.getElem?_cons_zero]; exact rfl))); (· exact rfl); intro K hK; apply Exists.intro; refine And.intro (fun X' hX' => ?_) ?_; (· have hq := HC.out _ hX'; clear hX'; go_simp; (try go_bits); first | done | exact rfl | exact ⟨rfl, rfl⟩); go_simp; refine hK _ _ ?_; clear hK K)
  (apply wpOrd_comes; ((· first | (rw [List.getElem?_toArray, List.getElem?_cons_zero]; done) | (simp only [List.getElem?_toArray, List.getElem?_cons_succ, List.getElem?_cons_zero]; exact rfl))); intro N hN)
  go_wp2_with (refine wpList_append_full _ _ 42 rfl A r rfl B cb b rfl rfl 5 i5 Tryd.underlying42 HI.out.1 HI.out.2.1 HI.out.2.2.1 HI.out.2.2.2 (HRB.out X _ hX.at2) (HB.out X hX.drop.drop) (by omega) na HNB.out ?_; intro A2 c2 X2 hk)
  have H2 := hid (hk _ _ c hrc (by unfold maxLen; omega) hX.at2).at2
  rw [← HALL.out] at H2
  clear hk hX
  refine hN _ _ (fun h => by cases h) ?_
  clear hN N
  (apply wpOrd_pure; ((· first | (rw [List.getElem?_toArray, List.getElem?_cons_zero]; done) | (simp only [List.getElem?_toArray, List.getElem?_cons_succ, List.getElem?_cons_zero]; exact rfl))); (· exact rfl); intro K hK; apply Exists.intro; refine And.intro (fun X' => ?_) ?_; (· go_simp; (try go_bits); first | done | exact rfl | exact ⟨rfl, rfl⟩); go_simp; refine hK _ _ ?_; clear hK K)
  refine wpOrd_done ?_
  have HV2 := hid (vals_one H2.out.at2 HNA.out)
  go_wp2_with fail
  go_loopw [4] (fun v X => ∃ (i : Nat) (B' : Option Addr) (c' : Nat) (rr : List UInt8), 64 * i ≤ all.length ∧ v = .slice B' rr.length c' ∧ rr.length ≤ c' ∧ c' ≤ maxLen ∧ Hid (rr = all.drop (64 * i)) ∧ Hid (∀ X M, St W0 (Vals [.slice A2 na c2] [all] :: M) X → BytesIn X B' rr) ∧
    Hid (St W0 (Blk g (hashV (absorbTo ws all i) (.slice A r.length c) n2) 111 :: Vals [.slice A2 na c2] [all] :: L) X)) (fun v _ => lenOf v)
  case atStart => exact ⟨0, A2, c2, all, Nat.zero_le _, by rw [HNA.out], HV2.out.2.1, HV2.out.2.2, hid rfl, hid (fun X M hX => (vals_one hX HNA.out).1), H2⟩
  case round =>
    clear H2 HV2
    obtain ⟨i, B', c', rr, hi, rfl, hrr1, hrr2, HRR, HBR, HS⟩ := hrel
    have HWI := hid (absorbTo_len HW8.out all i)
    have HRL := hid (show rr.length = all.length - 64 * i by rw [HRR.out, List.length_drop])
    unfold maxLen at hrr2
    by_cases h64 : 64 ≤ rr.length
    · have e1 : (64 : Int) ≤ (rr.length : Int) := by omega
      have e2 : (64 : Int) ≤ (c' : Int) := by omega
      have e3 : 64 ≤ c' := by omega
      obtain ⟨b0, hb0⟩ : ∃ b, rr[0]? = some b := ⟨_, List.getElem?_eq_getElem (by omega)⟩
      obtain ⟨gb, ob, rfl, _, _⟩ := HBR.out wr _ HS.out.at2 0 b0 hb0
      have HTK := hid (show rr.take 64 = (all.drop (64 * i)).take 64 by rw [HRR.out])
      have htl : (rr.take 64).length = 64 := by rw [List.length_take]; omega
      obtain ⟨wn, hwn⟩ : ∃ wn, wn = absorbTo ws all (i + 1) := ⟨_, rfl⟩
      have HPR := hid (show ∀ X, St W0 (Blk g (hashV (absorbTo ws all i) (.slice A r.length c) n2) 111 :: Vals [.slice A2 na c2] [all] :: L) X → Calls Tryd.prog 61 #[.agg (w32 (absorbTo ws all i)), .slice (some ⟨gb, ob, none⟩) 64 c'] X fun x w' => x = .returned (.agg (w32 wn)) ∧ Below X.heap.size X w' from fun X hX => by
        have := press_ok (h := absorbTo ws all i) (n := 64) (c := c') HWI.out (HG.out.below hX.below HG.out.two) ((HBR.out X _ hX.at2).take 64) (by omega) htl e3 (by unfold maxLen; omega)
        rw [hwn, absorbTo, ← HTK.out]
        exact this)
      have HW9 := hid (show wn.length = 8 by rw [hwn]; exact absorbTo_len HW8.out all (i + 1))
      have HWN := hid hwn
      have HWS := hid ((w32_size wn).trans HW9.out)
      have HLD := hid (show ∀ X, St W0 (Blk g (hashV (absorbTo ws all i) (.slice A r.length c) n2) 111 :: Vals [.slice A2 na c2] [all] :: L) X → (loadK 109 (.pointer (some ⟨g, 0, none⟩))).run Tryd.prog X = .ok (.value (.agg (w32 (absorbTo ws all i)))) X from fun X hX => run_loadK hX.blk Tryd.underlying109 rfl size8w ((w32_size _).trans HWI.out) (fun j hj => by
        rw [w32_size, HWI.out] at hj
        rw [Nat.zero_add]
        exact hashV_word HWI.out _ _ hj))
      have HBN := hid (show ∀ X M, St W0 (Vals [.slice A2 na c2] [all] :: M) X → BytesIn X (if c' = 64 then some ⟨gb, ob, none⟩ else some ⟨gb, ob + 64, none⟩) (rr.drop 64) from fun X M hX => by
        by_cases hc : c' = 64
        · rw [List.drop_of_length_le (by omega)]
          intro k b hk; cases hk
        · rw [if_neg hc]
          exact (HBR.out X M hX).shift 64)
      clear hb0 htl hwn
      go_wp2_with fail
      refine wp_region_ord [10] [(0, 1), (1, 1), (2, 1), (3, 1), (4, 1), (5, 1), (6, 1), (7, 2), (8, 1), (9, 1), (10, 2)] (fun X => St W0 (Blk g (hashV (absorbTo ws all i) (.slice A r.length c) n2) 111 :: Vals [.slice A2 na c2] [all] :: L) X) (by kernel_rfl) (by kernel_rfl) (fun d _ c _ _ h => by cases d <;> exact h) (HS.out.turn (Below.drew (Below.refl _ _))) (fun X hXe hX => ?_)
      clear hXe HS
      repeat (apply wpOrd_class; ((· first | (rw [List.getElem?_toArray, List.getElem?_cons_zero]; done) | (simp only [List.getElem?_toArray, List.getElem?_cons_succ, List.getElem?_cons_zero]; exact rfl))); (· exact rfl); intro K hK; apply Exists.intro; refine And.intro (fun X' hX' => ?_) ?_; (· have hq := HLD.out _ hX'; clear hX'; go_simp; (try go_bits); first | done | exact rfl | exact ⟨rfl, rfl⟩); go_simp; refine hK _ _ ?_; clear hK K)
      (apply wpOrd_comes; ((· first | (rw [List.getElem?_toArray, List.getElem?_cons_zero]; done) | (simp only [List.getElem?_toArray, List.getElem?_cons_succ, List.getElem?_cons_zero]; exact rfl))); intro N hN)
      go_wp2_with (go_at_call 61; (with_reducible refine (HPR.out _ hX).mono ?_); rintro v X3 ⟨rfl, hb⟩; have hX3 := hX.turn hb; clear hb)
      refine hN _ _ (fun _ => hX3) ?_
      clear hN N hX
      repeat (apply wpOrd_class; ((· first | (rw [List.getElem?_toArray, List.getElem?_cons_zero]; done) | (simp only [List.getElem?_toArray, List.getElem?_cons_succ, List.getElem?_cons_zero]; exact rfl))); (· exact rfl); intro K hK; apply Exists.intro; refine And.intro (fun X' hX' => ?_) ?_; (· have hq := HLD.out _ hX'; clear hX'; go_simp; (try go_bits); first | done | exact rfl | exact ⟨rfl, rfl⟩); go_simp; refine hK _ _ ?_; clear hK K)
      (apply wpOrd_comes; ((· first | (rw [List.getElem?_toArray, List.getElem?_cons_zero]; done) | (simp only [List.getElem?_toArray, List.getElem?_cons_succ, List.getElem?_cons_zero]; exact rfl))); intro N hN)
      go_wp2_with (refine wpList_store_part 109 _ _ rfl g 0 rfl rfl (.agg (w32 wn)) rfl 8 size8w HWS.out (w32_one _) 111 _ hX3.blk (by rw [hashV_size HWI.out]; omega) ?_; intro X4 hB hT hs)
      rw [show (Value.agg (w32 wn)).cells.toList = (w32 wn).toList from rfl, hashV_put HWI.out HW9.out, HWN.out] at hB
      have H4 := hid (hX3.put hB hT)
      clear hB hT hs hX3
      refine hN _ _ (fun h => by cases h) ?_
      clear hN N
      refine wpOrd_done ?_
      go_wp2_with fail
      go_roundw
      case rel => exact ⟨i + 1, if c' = 64 then some ⟨gb, ob, none⟩ else some ⟨gb, ob + 64, none⟩, c' - 64, rr.drop 64, by have := HRL.out; omega, by rw [List.length_drop], by rw [List.length_drop]; omega, by unfold maxLen; omega, hid (by rw [HRR.out, List.drop_drop]; congr 1), HBN, H4⟩
      case measure => simp [lenOf]; omega
    · have e1 : ¬ (64 : Int) ≤ (rr.length : Int) := by omega
      have hie : all.length / 64 = i := by have := HRL.out; omega
      rw [hie] at HMW HMR
      rw [← HRR.out] at HMR
      have hrr4 : 0 + rr.length ≤ 140737488355328 := by omega
      have HBX := hid (HBR.out)
      clear hie
      go_wp2_with (first | (refine wpList_buildSlice0 rfl rfl Tryd.underlying42 be5.size ?_; intro gs X12 hS hgs hges hX12; have H5 := hid (HS.out.newRow0 (e := 5) (s := 1) hX12 hges hS); clear hS hgs hges hX12) | (refine wpList_append_bytes _ _ 42 rfl (.slice (some ⟨gs, 0, none⟩) 0 0) rfl B' c' rr rfl rfl 5 i5 Tryd.underlying42 HI.out.1 HI.out.2.1 HI.out.2.2.1 HI.out.2.2.2 0 [] H5.out.row (HBX.out _ _ H5.out.at3) hrr4 ?_; intro v' X3 hO hT hfr; have H6 := hid (show St W0 (Row v' 5 1 rr.length (bvL rr) :: Blk g (hashV (absorbTo ws all i) (.slice A r.length c) n2) 111 :: Vals [.slice A2 na c2] [all] :: L) X3 from (by have := H5.out.grow hO hT hfr; rw [Nat.zero_add, List.nil_append] at this; exact this)); clear hO hT hfr; obtain ⟨A3, c3, rfl, hc3⟩ := row_slice H6.out; have HC3 := hid hc3; clear hc3; have y8 := (cell_of_row X3 g 8 _ _ _ H6.out.at2.blk).trans (hashV_rest HWI.out _ _); have f8 := frozen_of_row X3 g 8 _ _ H6.out.at2.blk))
      refine bodyPost_end (results_none rfl _ _ _) rfl ⟨rfl, A3, c3, ?_⟩
      have h7 := H6.out.at2.setCell 8 (.slice A3 rr.length c3)
      rw [hashV_set8 HWI.out] at h7
      have h8 := (h7.at2.row_val rfl).at3.drop
      show St W0 (Blk g (hashV (wordsOf (m ++ b)) (.slice A3 (restOf (m ++ b)).length c3) (m ++ b).length) 111 :: Vals [.slice A3 (restOf (m ++ b)).length c3] [restOf (m ++ b)] :: L) _
      rw [HMW.out, HMR.out, HN.out]
      exact h8.at2
end
end Go.Proofs.YtnakbdgoaepehaaDoor
