/- The sum itself. -/
import Derived.Test.YtnakbdgoaepehaaDoorShaHash
namespace Go.Cu
open Go Go.RowKit
def padN (r : Nat) : Nat := (119 - r) % 64
/-- What is left, its mark and so many noughts. -/
def padTo (r : List UInt8) (k : Nat) : List UInt8 := r ++ [128] ++ List.replicate k 0
def tailTo (m : List UInt8) (k : Nat) : List UInt8 := padTo (restOf m) (padN (restOf m).length) ++ (be8 (m.length * 8)).take k
def tailL (m : List UInt8) : List UInt8 := tailTo m 8
theorem padTo_len (r : List UInt8) (k : Nat) : (padTo r k).length = r.length + 1 + k := by simp [padTo]; omega
theorem padTo_step (r : List UInt8) (k : Nat) : padTo r k ++ [0] = padTo r (k + 1) := by
  unfold padTo
  rw [List.replicate_succ', List.append_assoc]
theorem tailTo_len (m : List UInt8) {k : Nat} (hk : k ≤ 8) : (tailTo m k).length = (restOf m).length + 1 + padN (restOf m).length + k := by
  unfold tailTo
  rw [List.length_append, padTo_len, List.length_take, be8_len]
  omega
/-- The four bytes of a word. -/
def wordB (x : UInt32) (s : Nat) : UInt8 := UInt8.ofNat (x.toNat / 2 ^ s)
/-- The words written out, so many of them. -/
def outTo (ws : List UInt32) : Nat → List UInt8
  | 0 => List.replicate 32 0
  | i + 1 => ((((outTo ws i).set (i * 4) (wordB (ws.getD i 0) 24)).set (i * 4 + 1) (wordB (ws.getD i 0) 16)).set (i * 4 + 2) (wordB (ws.getD i 0) 8)).set (i * 4 + 3) (wordB (ws.getD i 0) 0)
theorem outTo_len (ws : List UInt32) : ∀ i, (outTo ws i).length = 32
  | 0 => by simp [outTo]
  | i + 1 => by rw [outTo, List.length_set, List.length_set, List.length_set, List.length_set, outTo_len ws i]
theorem run_index_w32 {P : Program} {t e : TypeId} {n : Nat} (ht : P.underlying t = some (.array n e)) (hu : P.underlying e = some (.int .u32)) (hz : (P.info? e).map (·.size) = some 1)
    (l : List UInt32) (hl : l.length = n) (i : Nat) (h : i < n) (w : World) : (Instr.index t (.agg (w32 l)) (.int .i64 i)).run P w = .ok (.int .u32 ((l.getD i 0).toNat : Int)) w := by
  have hin : ¬ (n ≤ i) := by omega
  have hg := w32_get l (i := i) (by omega)
  simp [Instr.index, asIntOf, run_underlying ht, hin, run_sizeOf hz, part, isAgg, run_underlying hu, hg]
def sumL (m : List UInt8) : List UInt8 := outTo (absorbTo (wordsOf m) (tailL m) ((tailL m).length / 64)) 8
theorem sumL_len (m : List UInt8) : (sumL m).length = 32 := outTo_len _ 8
end Go.Cu
namespace Go.Proofs.YtnakbdgoaepehaaDoor
open Go.RowKit Go.Cu
theorem tailTo_step (m : List UInt8) {k : Nat} (hk : k < 8) : tailTo m k ++ [UInt8.ofNat (m.length * 8 / 2 ^ (8 * (7 - k)))] = tailTo m (k + 1) := by
  unfold tailTo
  rw [List.take_add_one, be8_get _ hk, List.append_assoc]
  rfl
set_option maxRecDepth 20000 in
theorem zero54s (W : World) : (zeroValue 23).run Tryd.prog W = .ok (.agg (bv (List.replicate 32 0))) W := by kernel_rfl
theorem size54s : (Tryd.prog.info? 23).map (·.size) = some 32 := by kernel_rfl
theorem zero5s (W : World) : (zeroValue 5).run Tryd.prog W = .ok (.int .u8 0) W := by kernel_rfl
theorem size5s : (Tryd.prog.info? 5).map (·.size) = some 1 := by kernel_rfl
theorem sizeU32 : (Tryd.prog.info? 108).map (·.size) = some 1 := by kernel_rfl
@[go_sem ↓] theorem ldktSUM (a : Act) (dst : Option Tmp) (x : Operand) (ty : TypeId) (pos : String) (after : Array Edge) (guard : Option (Nat × Bool)) :
      execOp a.eval { dst, op := .load 23 x, type := ty, pos, after, guard } = loadK 23 (a.eval x) := rfl
section
variable {W0 W : World} {L : List Atm}
set_option maxRecDepth 20000 in
set_option maxHeartbeats 8000000 in
theorem hsum_st {g : Nat} {A : Option Addr} {c : Nat} {m : List UInt8} (h : St W0 (Hashed g A c m L) W) (hG : Glob W0) (hm : m.length ≤ 1000000000000) :
    Calls Tryd.prog 40 #[.pointer (some ⟨g, 0, none⟩)] W fun x w' => x = .returned (.agg (bv (sumL m))) ∧ St W0 (Hashed g A c m L) w' := by
  obtain ⟨r, hr⟩ : ∃ r, r = restOf m := ⟨_, rfl⟩
  obtain ⟨ws, hws⟩ : ∃ ws, ws = wordsOf m := ⟨_, rfl⟩
  have HW8 := hid (show ws.length = 8 by rw [hws]; exact wordsOf_len m)
  have hrl : r.length < 64 := by rw [hr, restOf_len]; omega
  obtain ⟨n1, hn1⟩ : ∃ n, n = m.length := ⟨_, rfl⟩
  obtain ⟨tl, htl⟩ : ∃ t, t = fun k => tailTo m k := ⟨_, rfl⟩
  have HT0 := hid (show tl 0 = padTo r (padN r.length) by rw [htl, hr]; simp [tailTo])
  have HTS := hid (show ∀ k, k < 8 → tl k ++ [UInt8.ofNat (n1 * 8 / 2 ^ (8 * (7 - k)))] = tl (k + 1) by rw [htl, hn1]; intro k hk; exact tailTo_step m hk)
  have HTL := hid (show ∀ k, k ≤ 8 → (tl k).length = r.length + 1 + padN r.length + k by rw [htl, hr]; intro k hk; exact tailTo_len m hk)
  have HSM := hid (show sumL m = outTo (absorbTo ws (tl 8) ((tl 8).length / 64)) 8 by rw [htl, hws]; rfl)
  have HQ := hid (show ∀ X, St W0 (Blk g (hashV ws (.slice A r.length c) n1) 111 :: Vals [.slice A r.length c] [r] :: L) X → St W0 (Hashed g A c m L) X by rw [hr, hws, hn1]; exact fun X hX => hX)
  have HH := hid (show St W0 (Blk g (hashV ws (.slice A r.length c) n1) 111 :: Vals [.slice A r.length c] [r] :: L) W from by rw [hws, hr, hn1]; exact h)
  have hrc := (vals_one HH.out.at2 rfl).2.1
  have HRB := hid (show ∀ X M, St W0 (Vals [.slice A r.length c] [r] :: M) X → BytesIn X A r from fun X M hX => (vals_one hX rfl).1)
  have HG := hid hG
  obtain ⟨i5, hi, hiz, his, hib⟩ := info_parts info5
  have HI := hid (And.intro hi (And.intro hiz (And.intro his hib)))
  have hn1b : n1 ≤ 1000000000000 := by omega
  have hP : padN r.length ≤ 63 ∧ (r.length + 1 + padN r.length) % 64 = 56 := by unfold padN; omega
  obtain ⟨K, hK⟩ : ∃ K, K = padN r.length := ⟨_, rfl⟩
  rw [← hK] at hP HTL HT0
  have HP := hid hP
  obtain ⟨out, hout⟩ : ∃ o, o = sumL m := ⟨_, rfl⟩
  rw [← hout] at HSM ⊢
  clear h hG hi hiz his hib hr hws hn1 htl hm hK hP hout
  have tok : True := trivial
  obtain ⟨n2, hn2⟩ : ∃ n, n = r.length + 1 := ⟨_, rfl⟩
  have hn2i : (r.length : Int) + 1 = (n2 : Int) := by omega
  have hr0 : 0 + r.length ≤ 140737488355328 := by omega
  have hr1 : r.length + 1 ≤ maxLen := by unfold maxLen; omega
  have hr2 : (r.length + 1) * 1 ≤ 140737488355328 := by omega
  have HN2 := hid hn2
  have HFC := hid (show ∀ X M, St W0 (Blk g (hashV ws (.slice A r.length c) n1) 111 :: M) X → X.cell? ⟨g, 8, none⟩ = some (.slice A r.length c) ∧ X.cell? ⟨g, 9, none⟩ = some (.int .i64 n1) from fun X M hX => ⟨(cell_of_row X g 8 _ _ _ hX.blk).trans (hashV_rest HW8.out _ _), (cell_of_row X g 9 _ _ _ hX.blk).trans (hashV_n HW8.out _ _)⟩)
  clear hn2
  go_enter Tryd.func40, Tryd.ntmps40
  go_upto_region 4 with (first | (have _t := tok; refine wpList_alloc 23 rfl rfl (.agg (bv (List.replicate 32 0))) zero54s ?_; intro go W1 h1 hl1 hg1 hW1; have H1 := hid (HH.out.newBlk hW1 hg1 h1); clear h1 hl1 hg1 hW1 tok) | (refine wpList_buildSlice0 rfl rfl Tryd.underlying42 be5.size ?_; intro gs X2 hS hgs hges hX12; have H2 := hid (H1.out.newRow0 (e := 5) (s := 1) hX12 hges hS); have y8 := (HFC.out _ _ H2.out.at3).1; clear hS hgs hges hX12) | (refine wpList_append_bytes _ _ 42 rfl (.slice (some ⟨gs, 0, none⟩) 0 0) rfl A c r rfl rfl 5 i5 Tryd.underlying42 HI.out.1 HI.out.2.1 HI.out.2.2.1 HI.out.2.2.2 0 [] H2.out.row (HRB.out _ _ H2.out.at4) hr0 ?_; intro v' X3 hO hT hfr; have H3 := hid (show St W0 (Row v' 5 1 r.length (bvL r) :: Blk go (bv (List.replicate 32 0)) 23 :: Blk g (hashV ws (.slice A r.length c) n1) 111 :: Vals [.slice A r.length c] [r] :: L) X3 from (by have := H2.out.grow hO hT hfr; rw [Nat.zero_add, List.nil_append] at this; exact this)); clear hO hT hfr y8; obtain ⟨A3, c3, rfl, hc3⟩ := row_slice H3.out; clear hc3) | (refine wpList_buildSlice1 _ rfl (.int .u8 128) (by simp [Act.eval]) rfl Tryd.underlying42 zero5s size5s (by decide) (by decide) rfl ?_; intro gn X4 hS hgs hges hX1b; have H4 := hid (H3.out.turn hX1b); have HNW := hid (news_box hS [.int .u8 128] rfl); clear hS hgs hges hX1b) | (refine wpList_append_at _ _ _ rfl (.slice A3 r.length c3) rfl ⟨gn, 0, none⟩ 1 1 rfl rfl 5 i5 (.int .u8 0) 1 1 Tryd.underlying42 HI.out.1 HI.out.2.1 HI.out.2.2.1 HI.out.2.2.2 rfl (by decide) r.length (bvL r) H4.out.row [.int .u8 128] rfl HNW.out (by simp [Value.oneCell']) hr1 hr2 ?_; intro v' X5 hO hT hfr; have H5 := hid (H4.out.grow hO hT hfr); obtain ⟨A5, c5, rfl, hc5⟩ := row_slice H5.out; clear hO hT hfr hc5))
  go_loopw [3] (fun v X => ∃ (n k : Nat) (D : Option Addr) (d : Nat), n = r.length + 1 + k ∧ k ≤ K ∧ v = .slice D n d ∧ Hid (St W0 (Row (.slice D n d) 5 1 n (bvL (padTo r k)) :: Blk go (bv (List.replicate 32 0)) 23 :: Blk g (hashV ws (.slice A r.length c) n1) 111 :: Vals [.slice A r.length c] [r] :: L) X)) (fun v _ => K + 64 - (lenOf v))
  case atStart => exact ⟨_, 0, A5, c5, rfl, Nat.zero_le _, rfl, by
    have h := H5.out
    rw [show bvL r ++ [Value.int .u8 128] = bvL (padTo r 0) by simp [bvL, padTo]] at h
    exact hid h⟩
  case round =>
    clear H1 H2 H3 H4 H5 HNW
    obtain ⟨n, k, D, d, hn, hk, rfl, HS⟩ := hrel
    have HN := hid hn
    have hP := HP.out
    have hn0 : (0 : Int) ≤ (n : Int) := by omega
    obtain ⟨q, hq⟩ : ∃ q, q = n % 64 := ⟨_, rfl⟩
    have em : (n : Int).tmod 64 = (q : Int) := by rw [Int.tmod_eq_emod_of_nonneg hn0]; omega
    have em2 : (n : Int) % 64 = (q : Int) := by omega
    by_cases h56 : q = 56
    · have e1 : (q : Int) = 56 := by omega
      obtain rfl : K = k := by omega
      clear hn hP hq
      go_wp2_with fail
      go_loopw [3, 4] (fun v j X => ∃ (n k : Nat) (ji : Int) (D : Option Addr) (d : Nat), n = r.length + 1 + K + k ∧ k ≤ 8 ∧ ji = 7 - (k : Int) ∧ v = .slice D n d ∧ j = .int .i64 ji ∧ Hid (St W0 (Row (.slice D n d) 5 1 n (bvL (tl k)) :: Blk go (bv (List.replicate 32 0)) 23 :: Blk g (hashV ws (.slice A r.length c) n1) 111 :: Vals [.slice A r.length c] [r] :: L) X)) (fun _ j _ => (intOf j + 1).toNat)
      case atStart => exact ⟨n, 0, 7, D, d, HN.out, Nat.zero_le _, rfl, rfl, rfl, by rw [HT0.out]; exact HS⟩
      case round =>
        clear HS HN em em2 e1 hn0
        obtain ⟨n, k, ji, D, d, hn, hk, hji, rfl, rfl, HS⟩ := hrel
        have HN := hid hn
        have HJ := hid hji
        by_cases h8 : k < 8
        · have e1 : (0 : Int) ≤ ji := by omega
          have hP := HP.out
          have hb1 : n + 1 ≤ maxLen := by unfold maxLen; omega
          have hb2 : (n + 1) * 1 ≤ 140737488355328 := by omega
          have hj2 : ji ≤ 7 := by omega
          have y9 := (HFC.out _ _ HS.out.at3).2
          obtain ⟨b, hb⟩ : ∃ b, b = UInt8.ofNat (n1 * 8 / 2 ^ (8 * (7 - k))) := ⟨_, rfl⟩
          have EB : (n1 : Int) * 8 / 2 ^ (8 * ji).toNat % 256 = (b.toNat : Int) := by
            rw [hb, u8_cast, show (8 * ji).toNat = 8 * (7 - k) by omega]
            simp
          have HBS := hid (show tl k ++ [b] = tl (k + 1) by rw [hb]; exact HTS.out k h8)
          clear hn hji hP hb
          go_wp2_with (first | (refine wpList_buildSlice1 _ rfl (.int .u8 b.toNat) (by simp [Act.eval]; exact EB) rfl Tryd.underlying42 zero5s size5s (by decide) (by decide) rfl ?_; intro gn X4 hS hgs hges hX1b; have H4 := hid (HS.out.turn hX1b); have HNW := hid (news_box hS [.int .u8 b.toNat] rfl); clear hS hgs hges hX1b) | (refine wpList_append_at _ _ _ rfl (.slice D n d) rfl ⟨gn, 0, none⟩ 1 1 rfl rfl 5 i5 (.int .u8 0) 1 1 Tryd.underlying42 HI.out.1 HI.out.2.1 HI.out.2.2.1 HI.out.2.2.2 rfl (by decide) n (bvL (tl k)) H4.out.row [.int .u8 b.toNat] rfl HNW.out (by simp [Value.oneCell']) hb1 hb2 ?_; intro v' X5 hO hT hfr; have H5 := hid (H4.out.grow hO hT hfr); obtain ⟨A5, c5, rfl, hc5⟩ := row_slice H5.out; clear hO hT hfr hc5))
          go_roundw
          case rel => exact ⟨_, k + 1, ji - 1, A5, c5, by rw [HN.out]; omega, by omega, by rw [HJ.out]; omega, rfl, rfl, by
            have h := H5.out
            rw [show bvL (tl k) ++ [Value.int .u8 b.toNat] = bvL (tl (k + 1)) by rw [← HBS.out]; simp [bvL]] at h
            exact hid h⟩
          case measure => simp [intOf]; omega
        · have e1 : ¬ (0 : Int) ≤ ji := by omega
          obtain rfl : k = 8 := by omega
          obtain ⟨all, hall⟩ : ∃ a, a = tl 8 := ⟨_, rfl⟩
          have HNA := hid (show n = all.length by rw [hall, hn, HTL.out 8 (Nat.le_refl _)])
          have HAL := hid (show all.length < 200 ∧ all.length % 64 = 0 by rw [← HNA.out]; have := HP.out; omega)
          rw [← hall] at HS HSM
          clear hn hji hall
          have LB : (loadK 109 (.pointer (some ⟨g, 0, none⟩))).run Tryd.prog wr = .ok (.value (.agg (w32 ws))) wr := run_loadK HS.out.at3.blk Tryd.underlying109 rfl size8w ((w32_size _).trans HW8.out) (fun j hj => by
            rw [w32_size, HW8.out] at hj
            rw [Nat.zero_add]
            exact hashV_word HW8.out _ _ hj)
          have HZ8 := hid (show (w32 (List.replicate 8 0)).size = 8 by rw [w32_size, List.length_replicate])
          have HWS := hid ((w32_size ws).trans HW8.out)
          go_wp2_with (first | (refine wpList_alloc 109 rfl rfl (.agg (w32 (List.replicate 8 0))) zero8w ?_; intro gh W2 h1 hl1 hg1 hW1; have H2 := hid ((show St W0 (Vals [.slice D n d] [all] :: Blk go (bv (List.replicate 32 0)) 23 :: Blk g (hashV ws (.slice A r.length c) n1) 111 :: Vals [.slice A r.length c] [r] :: L) wr from HS.out.row_val HNA.out).newBlk hW1 hg1 h1); clear h1 hl1 hg1 hW1) | (refine wpList_store_box 109 _ _ rfl gh rfl rfl (w32 ws) rfl 8 size8w HWS.out (w32_one _) 109 _ H2.out.blk HZ8.out ?_; intro W5 hB hT hs; have H5 := hid (H2.out.put hB hT); clear hB hT hs LB))
          have HV2 := hid (vals_one H5.out.at2 HNA.out)
          go_loopw [3] (fun v X => ∃ (i : Nat) (B' : Option Addr) (c' : Nat) (rr : List UInt8), 64 * i ≤ all.length ∧ v = .slice B' rr.length c' ∧ rr.length ≤ c' ∧ c' ≤ maxLen ∧ Hid (rr = all.drop (64 * i)) ∧ Hid (∀ X M, St W0 (Vals [.slice D n d] [all] :: M) X → BytesIn X B' rr) ∧
            Hid (St W0 (Blk gh (w32 (absorbTo ws all i)) 109 :: Vals [.slice D n d] [all] :: Blk go (bv (List.replicate 32 0)) 23 :: Blk g (hashV ws (.slice A r.length c) n1) 111 :: Vals [.slice A r.length c] [r] :: L) X)) (fun v _ => lenOf v)
          case atStart => exact ⟨0, D, d, all, Nat.zero_le _, by rw [HNA.out], HV2.out.2.1, HV2.out.2.2, hid rfl, hid (fun X M hX => (vals_one hX HNA.out).1), H5⟩
          case round =>
            clear H2 H5 HV2 HS
            obtain ⟨i, B', c', rr, hi, rfl, hrr1, hrr2, HRR, HBR, HS⟩ := hrel
            have HWI := hid (absorbTo_len HW8.out all i)
            have HRL := hid (show rr.length = all.length - 64 * i by rw [HRR.out, List.length_drop])
            unfold maxLen at hrr2
            by_cases h64 : 64 ≤ rr.length
            · have e1 : (0 : Int) < (rr.length : Int) := by omega
              have e2 : (64 : Int) ≤ (c' : Int) := by omega
              have e2b : (64 : Int) ≤ (rr.length : Int) := by omega
              have e3 : 64 ≤ c' := by omega
              obtain ⟨b0, hb0⟩ : ∃ b, rr[0]? = some b := ⟨_, List.getElem?_eq_getElem (by omega)⟩
              obtain ⟨gb, ob, rfl, _, _⟩ := HBR.out wr _ HS.out.at2 0 b0 hb0
              have HTK := hid (show rr.take 64 = (all.drop (64 * i)).take 64 by rw [HRR.out])
              have htl : (rr.take 64).length = 64 := by rw [List.length_take]; omega
              obtain ⟨wn, hwn⟩ : ∃ wn, wn = absorbTo ws all (i + 1) := ⟨_, rfl⟩
              have HPR := hid (show ∀ X M, St W0 (Blk gh (w32 (absorbTo ws all i)) 109 :: Vals [.slice D n d] [all] :: M) X → Calls Tryd.prog 61 #[.agg (w32 (absorbTo ws all i)), .slice (some ⟨gb, ob, none⟩) 64 c'] X fun x w' => x = .returned (.agg (w32 wn)) ∧ Below X.heap.size X w' from fun X M hX => by
                have := press_ok (h := absorbTo ws all i) (n := 64) (c := c') HWI.out (HG.out.below hX.below HG.out.two) ((HBR.out X _ hX.at2).take 64) (by omega) htl e3 (by unfold maxLen; omega)
                rw [hwn, absorbTo, ← HTK.out]
                exact this)
              have HWN := hid hwn
              have HWS2 := hid ((w32_size wn).trans (show wn.length = 8 by rw [hwn]; exact absorbTo_len HW8.out all (i + 1)))
              have HWS3 := hid ((w32_size (absorbTo ws all i)).trans HWI.out)
              have HLD := hid (show ∀ X, St W0 (Blk gh (w32 (absorbTo ws all i)) 109 :: Vals [.slice D n d] [all] :: Blk go (bv (List.replicate 32 0)) 23 :: Blk g (hashV ws (.slice A r.length c) n1) 111 :: Vals [.slice A r.length c] [r] :: L) X → (loadK 109 (.pointer (some ⟨gh, 0, none⟩))).run Tryd.prog X = .ok (.value (.agg (w32 (absorbTo ws all i)))) X from fun X hX => run_loadK_box hX.blk Tryd.underlying109 rfl size8w HWS3.out)
              have HBN := hid (show ∀ X M, St W0 (Vals [.slice D n d] [all] :: M) X → BytesIn X (if c' = 64 then some ⟨gb, ob, none⟩ else some ⟨gb, ob + 64, none⟩) (rr.drop 64) from fun X M hX => by
                by_cases hc : c' = 64
                · rw [List.drop_of_length_le (by omega)]
                  intro k b hk; cases hk
                · rw [if_neg hc]
                  exact (HBR.out X M hX).shift 64)
              clear hb0 htl hwn
              go_wp2_with fail
              refine wp_region_ord [4] [(0, 1), (1, 1), (2, 1), (3, 2), (4, 2)] (fun X => St W0 (Blk gh (w32 (absorbTo ws all i)) 109 :: Vals [.slice D n d] [all] :: Blk go (bv (List.replicate 32 0)) 23 :: Blk g (hashV ws (.slice A r.length c) n1) 111 :: Vals [.slice A r.length c] [r] :: L) X) (by kernel_rfl) (by kernel_rfl) (fun d _ c _ _ h => by cases d <;> exact h) (HS.out.turn (Below.drew (Below.refl _ _))) (fun X hXe hX => ?_)
              clear hXe HS
              repeat (apply wpOrd_class; ((· first | (rw [List.getElem?_toArray, List.getElem?_cons_zero]; done) | (simp only [List.getElem?_toArray, List.getElem?_cons_succ, List.getElem?_cons_zero]; exact rfl))); (· exact rfl); intro K hK; apply Exists.intro; refine And.intro (fun X' hX' => ?_) ?_; (· have hq := HLD.out _ hX'; clear hX'; go_simp; (try go_bits); first | done | exact rfl | exact ⟨rfl, rfl⟩); go_simp; refine hK _ _ ?_; clear hK K)
              (apply wpOrd_comes; ((· first | (rw [List.getElem?_toArray, List.getElem?_cons_zero]; done) | (simp only [List.getElem?_toArray, List.getElem?_cons_succ, List.getElem?_cons_zero]; exact rfl))); intro N hN)
              go_wp2_with (go_at_call 61; (with_reducible refine (HPR.out _ _ hX).mono ?_); rintro v X3 ⟨rfl, hb⟩; have hX3 := hX.turn hb; clear hb)
              refine hN _ _ (fun _ => hX3) ?_
              clear hN N hX
              (apply wpOrd_comes; ((· first | (rw [List.getElem?_toArray, List.getElem?_cons_zero]; done) | (simp only [List.getElem?_toArray, List.getElem?_cons_succ, List.getElem?_cons_zero]; exact rfl))); intro N hN)
              go_wp2_with (refine wpList_store_box 109 _ _ rfl gh rfl rfl (w32 wn) rfl 8 size8w HWS2.out (w32_one _) 109 _ hX3.blk HWS3.out ?_; intro X4 hB hT hs)
              have H4 := hid (hX3.put hB hT)
              rw [HWN.out] at H4
              clear hB hT hs hX3
              refine hN _ _ (fun h => by cases h) ?_
              clear hN N
              refine wpOrd_done ?_
              go_wp2_with fail
              go_roundw
              case rel => exact ⟨i + 1, if c' = 64 then some ⟨gb, ob, none⟩ else some ⟨gb, ob + 64, none⟩, c' - 64, rr.drop 64, by have := HRL.out; omega, by rw [List.length_drop], by rw [List.length_drop]; omega, by unfold maxLen; omega, hid (by rw [HRR.out, List.drop_drop]; congr 1), HBN, H4⟩
              case measure => simp [lenOf]; omega
            · have hl0 : rr.length = 0 := by have := HRL.out; have := HAL.out; omega
              have e1 : ¬ (0 : Int) < (rr.length : Int) := by omega
              have hie : all.length / 64 = i := by have := HRL.out; omega
              rw [hie] at HSM
              obtain ⟨V, hV⟩ : ∃ V, V = absorbTo ws all i := ⟨_, rfl⟩
              have HV8 := hid (show V.length = 8 by rw [hV]; exact HWI.out)
              rw [← hV] at HS HSM
              have HVS := hid ((w32_size V).trans HV8.out)
              have HZ32 := hid (show (bv (List.replicate 32 0)).size = 32 by rw [bv_size, List.length_replicate])
              clear hie hl0 hV HWI
              go_wp2_with (refine wpList_alloc 23 rfl rfl (.agg (bv (List.replicate 32 0))) zero54s ?_; intro g6 W6 h1 hl1 hg1 hW1; have H6 := hid (HS.out.newBlk hW1 hg1 h1); clear h1 hl1 hg1 hW1; have LB2 : (loadK 109 (.pointer (some ⟨gh, 0, none⟩))).run Tryd.prog W6 = .ok (.value (.agg (w32 V))) W6 := run_loadK_box H6.out.at2.blk Tryd.underlying109 rfl size8w HVS.out)
              go_loopw [7, 8, 59] (fun _ _ k X => ∃ j : Nat, j ≤ 8 ∧ k = .int .i64 j ∧ Hid (St W0 (Blk g6 (bv (outTo V j)) 23 :: Blk gh (w32 V) 109 :: Vals [.slice D n d] [all] :: Blk go (bv (List.replicate 32 0)) 23 :: Blk g (hashV ws (.slice A r.length c) n1) 111 :: Vals [.slice A r.length c] [r] :: L) X)) (fun _ _ k _ => 8 - (intOf k).toNat)
              case atStart => exact ⟨0, Nat.zero_le _, rfl, H6⟩
              case round =>
                clear H6 HS
                obtain ⟨j, hj, rfl, HS⟩ := hrel
                by_cases hlt : j < 8
                · have e1 : (j : Int) < 8 := by omega
                  have e0 : (0 : Int) ≤ (j : Int) := by omega
                  obtain ⟨x, hx⟩ : ∃ x, x = V.getD j 0 := ⟨_, rfl⟩
                  have IX : (Instr.index 109 (.agg (w32 V)) (.int .i64 j)).run Tryd.prog wr = .ok (.int .u32 (x.toNat : Int)) wr := by rw [hx]; exact run_index_w32 Tryd.underlying109 Tryd.underlying108 sizeU32 V HV8.out j hlt wr
                  have HXO := hid (show outTo V (j + 1) = ((((outTo V j).set (j * 4) (wordB x 24)).set (j * 4 + 1) (wordB x 16)).set (j * 4 + 2) (wordB x 8)).set (j * 4 + 3) (wordB x 0) by rw [outTo, hx])
                  clear hx
                  obtain ⟨p0, hp0⟩ : ∃ p, p = j * 4 := ⟨_, rfl⟩
                  obtain ⟨p1, hp1⟩ : ∃ p, p = p0 + 1 := ⟨_, rfl⟩
                  obtain ⟨p2, hp2⟩ : ∃ p, p = p0 + 2 := ⟨_, rfl⟩
                  obtain ⟨p3, hp3⟩ : ∃ p, p = p0 + 3 := ⟨_, rfl⟩
                  rw [← hp0, ← hp1, ← hp2, ← hp3] at HXO
                  have em0 : (4 : Int) * (j : Int) = (p0 : Int) := by omega
                  have em1 : (p0 : Int) + 1 = (p1 : Int) := by omega
                  have em2 : (p0 : Int) + 2 = (p2 : Int) := by omega
                  have em3 : (p0 : Int) + 3 = (p3 : Int) := by omega
                  have l0 : (p0 : Int) < 32 := by omega
                  have l1 : (p1 : Int) < 32 := by omega
                  have l2 : (p2 : Int) < 32 := by omega
                  have l3 : (p3 : Int) < 32 := by omega
                  have cc := fun (p : Nat) (hp : p < 32) => (blk_cell HS.out p).trans (bv_get _ _ (by rw [outTo_len V j]; exact hp))
                  have c0 := cc p0 (by omega)
                  have c1 := cc p1 (by omega)
                  have c2 := cc p2 (by omega)
                  have c3 := cc p3 (by omega)
                  have f0 := frozen_of_row wr g6 p0 _ _ HS.out.blk
                  have f1 := frozen_of_row wr g6 p1 _ _ HS.out.blk
                  have f2 := frozen_of_row wr g6 p2 _ _ HS.out.blk
                  have f3 := frozen_of_row wr g6 p3 _ _ HS.out.blk
                  have n01 : p0 ≠ p1 := by omega
                  have n02 : p0 ≠ p2 := by omega
                  have n03 : p0 ≠ p3 := by omega
                  have n12 : p1 ≠ p2 := by omega
                  have n13 : p1 ≠ p3 := by omega
                  have n23 : p2 ≠ p3 := by omega
                  clear cc hp0 hp1 hp2 hp3
                  go_wp2_with fail
                  go_roundw
                  case rel =>
                    refine ⟨j + 1, by omega, by go_num, hid ?_⟩
                    have h := (((HS.out.setCell p0 (.int .u8 ((wordB x 24).toNat : Int))).setCell p1 (.int .u8 ((wordB x 16).toNat : Int))).setCell p2 (.int .u8 ((wordB x 8).toNat : Int))).setCell p3 (.int .u8 ((wordB x 0).toNat : Int))
                    rw [bv_set, bv_set, bv_set, bv_set, ← HXO.out] at h
                    simp only [wordB, u8_cast] at h
                    simpa using h
                  case measure => simp [intOf]; omega
                · have e1 : ¬ (j : Int) < 8 := by omega
                  obtain rfl : j = 8 := by omega
                  rw [← HSM.out] at HS
                  have HO := hid (show (bv out).size = 32 by rw [bv_size, HSM.out]; exact outTo_len V 8)
                  have LB : (loadK 23 (.pointer (some ⟨g6, 0, none⟩))).run Tryd.prog wr = .ok (.value (.agg (bv out))) wr := run_loadK_box HS.out.blk Tryd.underlying23 rfl size54s HO.out
                  go_wp2_with (refine wpList_store_box 23 _ _ rfl go rfl rfl (bv out) rfl 32 size54s HO.out (bv_one _) 23 _ HS.out.at4.blk HZ32.out ?_; intro W5 hB5 hT5 hs5; have H5 := hid (HS.out.at4.put hB5 hT5))
                  exact bodyPost_ret (results_cell rfl _ _ _ go 23 (bv _) (0, 0) rfl hB5 Tryd.underlying23 (by rw [HO.out]; exact size54s)) rfl ⟨rfl, HQ.out _ H5.out.drop.drop.drop.drop⟩
    · have e1 : ¬ (q : Int) = 56 := by omega
      have hk2 : k < K := by
        rcases Nat.lt_or_ge k K with hlt | hge
        · exact hlt
        · exact absurd (by omega) h56
      have hb1 : n + 1 ≤ maxLen := by unfold maxLen; omega
      have hb2 : (n + 1) * 1 ≤ 140737488355328 := by omega
      clear hn hP hq
      go_wp2_with (first | (refine wpList_buildSlice1 _ rfl (.int .u8 0) (by simp [Act.eval]) rfl Tryd.underlying42 zero5s size5s (by decide) (by decide) rfl ?_; intro gn X4 hS hgs hges hX1b; have H4 := hid (HS.out.turn hX1b); have HNW := hid (news_box hS [.int .u8 0] rfl); clear hS hgs hges hX1b) | (refine wpList_append_at _ _ _ rfl (.slice D n d) rfl ⟨gn, 0, none⟩ 1 1 rfl rfl 5 i5 (.int .u8 0) 1 1 Tryd.underlying42 HI.out.1 HI.out.2.1 HI.out.2.2.1 HI.out.2.2.2 rfl (by decide) n (bvL (padTo r k)) H4.out.row [.int .u8 0] rfl HNW.out (by simp [Value.oneCell']) hb1 hb2 ?_; intro v' X5 hO hT hfr; have H5 := hid (H4.out.grow hO hT hfr); obtain ⟨A5, c5, rfl, hc5⟩ := row_slice H5.out; clear hO hT hfr hc5))
      go_roundw
      case rel => exact ⟨_, k + 1, A5, c5, by rw [HN.out]; omega, by omega, rfl, by
        have h := H5.out
        rw [show bvL (padTo r k) ++ [Value.int .u8 0] = bvL (padTo r (k + 1)) by rw [← padTo_step]; simp [bvL]] at h
        exact hid h⟩
      case measure => simp [lenOf]; have := HN.out; have := HP.out; omega
end
end Go.Proofs.YtnakbdgoaepehaaDoor
