/- Part 4 of the texts below this law, put together: what each holds is said at its head. -/
import Derived.Test.YthmchbdhikakhaaDoorJa3
import Derived.Lib.SlBytesConst
import Derived.Deep.CutBlock
import Derived.Deep.DeepCutAuto
import Derived.Test.YthmchbdhikakhaaDoorRows
import Derived.OpenShut
import Derived.LaidLaws
import Derived.LaidMore
import Derived.MakeChecks
/- The sum itself. -/
namespace Go.Cu
open Go Go.RowKit
def padN (r : Nat) : Nat := (119 - r) % 64
/-- What is left, its mark and so many noughts. -/
def padTo (r : List UInt8) (k : Nat) : List UInt8 := r ++ [128] ++ List.replicate k 0
def tailTo (m : List UInt8) (k : Nat) : List UInt8 := padTo (restOf m) (padN (restOf m).length) ++ (be8 (m.length * 8)).take k
def tailL (m : List UInt8) : List UInt8 := tailTo m 8
theorem padTo_len (r : List UInt8) (k : Nat) : (padTo r k).length = r.length + 1 + k := by simp [padTo]; omega
theorem padTo_step (r : List UInt8) (k : Nat) : padTo r k ++ [0] = padTo r (k + 1) := by
  unfold padTo
  rw [List.replicate_succ', List.append_assoc]
theorem tailTo_len (m : List UInt8) {k : Nat} (hk : k ≤ 8) : (tailTo m k).length = (restOf m).length + 1 + padN (restOf m).length + k := by
  unfold tailTo
  rw [List.length_append, padTo_len, List.length_take, be8_len]
  omega
/-- The four bytes of a word. -/
def wordB (x : UInt32) (s : Nat) : UInt8 := UInt8.ofNat (x.toNat / 2 ^ s)
/-- The words written out, so many of them. -/
def outTo (ws : List UInt32) : Nat → List UInt8
  | 0 => List.replicate 32 0
  | i + 1 => ((((outTo ws i).set (i * 4) (wordB (ws.getD i 0) 24)).set (i * 4 + 1) (wordB (ws.getD i 0) 16)).set (i * 4 + 2) (wordB (ws.getD i 0) 8)).set (i * 4 + 3) (wordB (ws.getD i 0) 0)
theorem outTo_len (ws : List UInt32) : ∀ i, (outTo ws i).length = 32
  | 0 => by simp [outTo]
  | i + 1 => by rw [outTo, List.length_set, List.length_set, List.length_set, List.length_set, outTo_len ws i]
theorem run_index_w32 {P : Program} {t e : TypeId} {n : Nat} (ht : P.underlying t = some (.array n e)) (hu : P.underlying e = some (.int .u32)) (hz : (P.info? e).map (·.size) = some 1)
    (l : List UInt32) (hl : l.length = n) (i : Nat) (h : i < n) (w : World) : (Instr.index t (.agg (w32 l)) (.int .i64 i)).run P w = .ok (.int .u32 ((l.getD i 0).toNat : Int)) w := by
  have hin : ¬ (n ≤ i) := by omega
  have hg := w32_get l (i := i) (by omega)
  simp [Instr.index, asIntOf, run_underlying ht, hin, run_sizeOf hz, part, isAgg, run_underlying hu, hg]
def sumL (m : List UInt8) : List UInt8 := outTo (absorbTo (wordsOf m) (tailL m) ((tailL m).length / 64)) 8
theorem sumL_len (m : List UInt8) : (sumL m).length = 32 := outTo_len _ 8
end Go.Cu
namespace Go.Proofs.YthmchbdhikakhaaDoor
open Go.RowKit Go.Cu
theorem tailTo_step (m : List UInt8) {k : Nat} (hk : k < 8) : tailTo m k ++ [UInt8.ofNat (m.length * 8 / 2 ^ (8 * (7 - k)))] = tailTo m (k + 1) := by
  unfold tailTo
  rw [List.take_add_one, be8_get _ hk, List.append_assoc]
  rfl
set_option maxRecDepth 20000 in
theorem zero54s (W : World) : (zeroValue 54).run Tryd.prog W = .ok (.agg (bv (List.replicate 32 0))) W := by kernel_rfl
theorem size54s : (Tryd.prog.info? 54).map (·.size) = some 32 := by kernel_rfl
theorem zero5s (W : World) : (zeroValue 5).run Tryd.prog W = .ok (.int .u8 0) W := by kernel_rfl
theorem size5s : (Tryd.prog.info? 5).map (·.size) = some 1 := by kernel_rfl
theorem sizeU32 : (Tryd.prog.info? 80).map (·.size) = some 1 := by kernel_rfl
@[go_sem ↓] theorem ldktSUM (a : Act) (dst : Option Tmp) (x : Operand) (ty : TypeId) (pos : String) (after : Array Edge) (guard : Option (Nat × Bool)) :
      execOp a.eval { dst, op := .load 54 x, type := ty, pos, after, guard } = loadK 54 (a.eval x) := rfl
section
variable {W0 W : World} {L : List Atm}
set_option maxRecDepth 20000 in
set_option maxHeartbeats 8000000 in
theorem hsum_st {g : Nat} {A : Option Addr} {c : Nat} {m : List UInt8} (h : St W0 (Hashed g A c m L) W) (hG : Glob W0) (hm : m.length ≤ 1000000000000) :
    Calls Tryd.prog 27 #[.pointer (some ⟨g, 0, none⟩)] W fun x w' => x = .returned (.agg (bv (sumL m))) ∧ St W0 (Hashed g A c m L) w' := by
  obtain ⟨r, hr⟩ : ∃ r, r = restOf m := ⟨_, rfl⟩
  obtain ⟨ws, hws⟩ : ∃ ws, ws = wordsOf m := ⟨_, rfl⟩
  have HW8 := hid (show ws.length = 8 by rw [hws]; exact wordsOf_len m)
  have hrl : r.length < 64 := by rw [hr, restOf_len]; omega
  obtain ⟨n1, hn1⟩ : ∃ n, n = m.length := ⟨_, rfl⟩
  obtain ⟨tl, htl⟩ : ∃ t, t = fun k => tailTo m k := ⟨_, rfl⟩
  have HT0 := hid (show tl 0 = padTo r (padN r.length) by rw [htl, hr]; simp [tailTo])
  have HTS := hid (show ∀ k, k < 8 → tl k ++ [UInt8.ofNat (n1 * 8 / 2 ^ (8 * (7 - k)))] = tl (k + 1) by rw [htl, hn1]; intro k hk; exact tailTo_step m hk)
  have HTL := hid (show ∀ k, k ≤ 8 → (tl k).length = r.length + 1 + padN r.length + k by rw [htl, hr]; intro k hk; exact tailTo_len m hk)
  have HSM := hid (show sumL m = outTo (absorbTo ws (tl 8) ((tl 8).length / 64)) 8 by rw [htl, hws]; rfl)
  have HQ := hid (show ∀ X, St W0 (Blk g (hashV ws (.slice A r.length c) n1) 83 :: Vals [.slice A r.length c] [r] :: L) X → St W0 (Hashed g A c m L) X by rw [hr, hws, hn1]; exact fun X hX => hX)
  have HH := hid (show St W0 (Blk g (hashV ws (.slice A r.length c) n1) 83 :: Vals [.slice A r.length c] [r] :: L) W from by rw [hws, hr, hn1]; exact h)
  have hrc := (vals_one HH.out.at2 rfl).2.1
  have HRB := hid (show ∀ X M, St W0 (Vals [.slice A r.length c] [r] :: M) X → BytesIn X A r from fun X M hX => (vals_one hX rfl).1)
  have HG := hid hG
  obtain ⟨i5, hi, hiz, his, hib⟩ := info_parts info5
  have HI := hid (And.intro hi (And.intro hiz (And.intro his hib)))
  have hn1b : n1 ≤ 1000000000000 := by omega
  have hP : padN r.length ≤ 63 ∧ (r.length + 1 + padN r.length) % 64 = 56 := by unfold padN; omega
  obtain ⟨K, hK⟩ : ∃ K, K = padN r.length := ⟨_, rfl⟩
  rw [← hK] at hP HTL HT0
  have HP := hid hP
  obtain ⟨out, hout⟩ : ∃ o, o = sumL m := ⟨_, rfl⟩
  rw [← hout] at HSM ⊢
  clear h hG hi hiz his hib hr hws hn1 htl hm hK hP hout
  have tok : True := trivial
  obtain ⟨n2, hn2⟩ : ∃ n, n = r.length + 1 := ⟨_, rfl⟩
  have hn2i : (r.length : Int) + 1 = (n2 : Int) := by omega
  have hr0 : 0 + r.length ≤ 140737488355328 := by omega
  have hr1 : r.length + 1 ≤ maxLen := by unfold maxLen; omega
  have hr2 : (r.length + 1) * 1 ≤ 140737488355328 := by omega
  have HN2 := hid hn2
  have HFC := hid (show ∀ X M, St W0 (Blk g (hashV ws (.slice A r.length c) n1) 83 :: M) X → X.cell? ⟨g, 8, none⟩ = some (.slice A r.length c) ∧ X.cell? ⟨g, 9, none⟩ = some (.int .i64 n1) from fun X M hX => ⟨(cell_of_row X g 8 _ _ _ hX.blk).trans (hashV_rest HW8.out _ _), (cell_of_row X g 9 _ _ _ hX.blk).trans (hashV_n HW8.out _ _)⟩)
  clear hn2
  go_enter Tryd.func27, Tryd.ntmps27
  go_upto_region 4 with (first | (have _t := tok; refine wpList_alloc 54 rfl rfl (.agg (bv (List.replicate 32 0))) zero54s ?_; intro go W1 h1 hl1 hg1 hW1; have H1 := hid (HH.out.newBlk hW1 hg1 h1); clear h1 hl1 hg1 hW1 tok) | (refine wpList_buildSlice0 rfl rfl Tryd.underlying40 be5.size ?_; intro gs X2 hS hgs hges hX12; have H2 := hid (H1.out.newRow0 (e := 5) (s := 1) hX12 hges hS); have y8 := (HFC.out _ _ H2.out.at3).1; clear hS hgs hges hX12) | (refine wpList_append_bytes _ _ 40 rfl (.slice (some ⟨gs, 0, none⟩) 0 0) rfl A c r rfl rfl 5 i5 Tryd.underlying40 HI.out.1 HI.out.2.1 HI.out.2.2.1 HI.out.2.2.2 0 [] H2.out.row (HRB.out _ _ H2.out.at4) hr0 ?_; intro v' X3 hO hT hfr; have H3 := hid (show St W0 (Row v' 5 1 r.length (bvL r) :: Blk go (bv (List.replicate 32 0)) 54 :: Blk g (hashV ws (.slice A r.length c) n1) 83 :: Vals [.slice A r.length c] [r] :: L) X3 from (by have := H2.out.grow hO hT hfr; rw [Nat.zero_add, List.nil_append] at this; exact this)); clear hO hT hfr y8; obtain ⟨A3, c3, rfl, hc3⟩ := row_slice H3.out; clear hc3) | (refine wpList_buildSlice1 _ rfl (.int .u8 128) (by simp [Act.eval]) rfl Tryd.underlying40 zero5s size5s (by decide) (by decide) rfl ?_; intro gn X4 hS hgs hges hX1b; have H4 := hid (H3.out.turn hX1b); have HNW := hid (news_box hS [.int .u8 128] rfl); clear hS hgs hges hX1b) | (refine wpList_append_at _ _ _ rfl (.slice A3 r.length c3) rfl ⟨gn, 0, none⟩ 1 1 rfl rfl 5 i5 (.int .u8 0) 1 1 Tryd.underlying40 HI.out.1 HI.out.2.1 HI.out.2.2.1 HI.out.2.2.2 rfl (by decide) r.length (bvL r) H4.out.row [.int .u8 128] rfl HNW.out (by simp [Value.oneCell']) hr1 hr2 ?_; intro v' X5 hO hT hfr; have H5 := hid (H4.out.grow hO hT hfr); obtain ⟨A5, c5, rfl, hc5⟩ := row_slice H5.out; clear hO hT hfr hc5))
  go_loopw [3] (fun v X => ∃ (n k : Nat) (D : Option Addr) (d : Nat), n = r.length + 1 + k ∧ k ≤ K ∧ v = .slice D n d ∧ Hid (St W0 (Row (.slice D n d) 5 1 n (bvL (padTo r k)) :: Blk go (bv (List.replicate 32 0)) 54 :: Blk g (hashV ws (.slice A r.length c) n1) 83 :: Vals [.slice A r.length c] [r] :: L) X)) (fun v _ => K + 64 - (lenOf v))
  case atStart => exact ⟨_, 0, A5, c5, rfl, Nat.zero_le _, rfl, by
    have h := H5.out
    rw [show bvL r ++ [Value.int .u8 128] = bvL (padTo r 0) by simp [bvL, padTo]] at h
    exact hid h⟩
  case round =>
    clear H1 H2 H3 H4 H5 HNW
    obtain ⟨n, k, D, d, hn, hk, rfl, HS⟩ := hrel
    have HN := hid hn
    have hP := HP.out
    have hn0 : (0 : Int) ≤ (n : Int) := by omega
    obtain ⟨q, hq⟩ : ∃ q, q = n % 64 := ⟨_, rfl⟩
    have em : (n : Int).tmod 64 = (q : Int) := by rw [Int.tmod_eq_emod_of_nonneg hn0]; omega
    have em2 : (n : Int) % 64 = (q : Int) := by omega
    by_cases h56 : q = 56
    · have e1 : (q : Int) = 56 := by omega
      obtain rfl : K = k := by omega
      clear hn hP hq
      go_wp2_with fail
      go_loopw [3, 4] (fun v j X => ∃ (n k : Nat) (ji : Int) (D : Option Addr) (d : Nat), n = r.length + 1 + K + k ∧ k ≤ 8 ∧ ji = 7 - (k : Int) ∧ v = .slice D n d ∧ j = .int .i64 ji ∧ Hid (St W0 (Row (.slice D n d) 5 1 n (bvL (tl k)) :: Blk go (bv (List.replicate 32 0)) 54 :: Blk g (hashV ws (.slice A r.length c) n1) 83 :: Vals [.slice A r.length c] [r] :: L) X)) (fun _ j _ => (intOf j + 1).toNat)
      case atStart => exact ⟨n, 0, 7, D, d, HN.out, Nat.zero_le _, rfl, rfl, rfl, by rw [HT0.out]; exact HS⟩
      case round =>
        clear HS HN em em2 e1 hn0
        obtain ⟨n, k, ji, D, d, hn, hk, hji, rfl, rfl, HS⟩ := hrel
        have HN := hid hn
        have HJ := hid hji
        by_cases h8 : k < 8
        · have e1 : (0 : Int) ≤ ji := by omega
          have hP := HP.out
          have hb1 : n + 1 ≤ maxLen := by unfold maxLen; omega
          have hb2 : (n + 1) * 1 ≤ 140737488355328 := by omega
          have hj2 : ji ≤ 7 := by omega
          have y9 := (HFC.out _ _ HS.out.at3).2
          obtain ⟨b, hb⟩ : ∃ b, b = UInt8.ofNat (n1 * 8 / 2 ^ (8 * (7 - k))) := ⟨_, rfl⟩
          have EB : (n1 : Int) * 8 / 2 ^ (8 * ji).toNat % 256 = (b.toNat : Int) := by
            rw [hb, u8_cast, show (8 * ji).toNat = 8 * (7 - k) by omega]
            simp
          have HBS := hid (show tl k ++ [b] = tl (k + 1) by rw [hb]; exact HTS.out k h8)
          clear hn hji hP hb
          go_wp2_with (first | (refine wpList_buildSlice1 _ rfl (.int .u8 b.toNat) (by simp [Act.eval]; exact EB) rfl Tryd.underlying40 zero5s size5s (by decide) (by decide) rfl ?_; intro gn X4 hS hgs hges hX1b; have H4 := hid (HS.out.turn hX1b); have HNW := hid (news_box hS [.int .u8 b.toNat] rfl); clear hS hgs hges hX1b) | (refine wpList_append_at _ _ _ rfl (.slice D n d) rfl ⟨gn, 0, none⟩ 1 1 rfl rfl 5 i5 (.int .u8 0) 1 1 Tryd.underlying40 HI.out.1 HI.out.2.1 HI.out.2.2.1 HI.out.2.2.2 rfl (by decide) n (bvL (tl k)) H4.out.row [.int .u8 b.toNat] rfl HNW.out (by simp [Value.oneCell']) hb1 hb2 ?_; intro v' X5 hO hT hfr; have H5 := hid (H4.out.grow hO hT hfr); obtain ⟨A5, c5, rfl, hc5⟩ := row_slice H5.out; clear hO hT hfr hc5))
          go_roundw
          case rel => exact ⟨_, k + 1, ji - 1, A5, c5, by rw [HN.out]; omega, by omega, by rw [HJ.out]; omega, rfl, rfl, by
            have h := H5.out
            rw [show bvL (tl k) ++ [Value.int .u8 b.toNat] = bvL (tl (k + 1)) by rw [← HBS.out]; simp [bvL]] at h
            exact hid h⟩
          case measure => simp [intOf]; omega
        · have e1 : ¬ (0 : Int) ≤ ji := by omega
          obtain rfl : k = 8 := by omega
          obtain ⟨all, hall⟩ : ∃ a, a = tl 8 := ⟨_, rfl⟩
          have HNA := hid (show n = all.length by rw [hall, hn, HTL.out 8 (Nat.le_refl _)])
          have HAL := hid (show all.length < 200 ∧ all.length % 64 = 0 by rw [← HNA.out]; have := HP.out; omega)
          rw [← hall] at HS HSM
          clear hn hji hall
          have LB : (loadK 81 (.pointer (some ⟨g, 0, none⟩))).run Tryd.prog wr = .ok (.value (.agg (w32 ws))) wr := run_loadK HS.out.at3.blk Tryd.underlying81 rfl size8w ((w32_size _).trans HW8.out) (fun j hj => by
            rw [w32_size, HW8.out] at hj
            rw [Nat.zero_add]
            exact hashV_word HW8.out _ _ hj)
          have HZ8 := hid (show (w32 (List.replicate 8 0)).size = 8 by rw [w32_size, List.length_replicate])
          have HWS := hid ((w32_size ws).trans HW8.out)
          go_wp2_with (first | (refine wpList_alloc 81 rfl rfl (.agg (w32 (List.replicate 8 0))) zero8w ?_; intro gh W2 h1 hl1 hg1 hW1; have H2 := hid ((show St W0 (Vals [.slice D n d] [all] :: Blk go (bv (List.replicate 32 0)) 54 :: Blk g (hashV ws (.slice A r.length c) n1) 83 :: Vals [.slice A r.length c] [r] :: L) wr from HS.out.row_val HNA.out).newBlk hW1 hg1 h1); clear h1 hl1 hg1 hW1) | (refine wpList_store_box 81 _ _ rfl gh rfl rfl (w32 ws) rfl 8 size8w HWS.out (w32_one _) 81 _ H2.out.blk HZ8.out ?_; intro W5 hB hT hs; have H5 := hid (H2.out.put hB hT); clear hB hT hs LB))
          have HV2 := hid (vals_one H5.out.at2 HNA.out)
          go_loopw [3] (fun v X => ∃ (i : Nat) (B' : Option Addr) (c' : Nat) (rr : List UInt8), 64 * i ≤ all.length ∧ v = .slice B' rr.length c' ∧ rr.length ≤ c' ∧ c' ≤ maxLen ∧ Hid (rr = all.drop (64 * i)) ∧ Hid (∀ X M, St W0 (Vals [.slice D n d] [all] :: M) X → BytesIn X B' rr) ∧
            Hid (St W0 (Blk gh (w32 (absorbTo ws all i)) 81 :: Vals [.slice D n d] [all] :: Blk go (bv (List.replicate 32 0)) 54 :: Blk g (hashV ws (.slice A r.length c) n1) 83 :: Vals [.slice A r.length c] [r] :: L) X)) (fun v _ => lenOf v)
          case atStart => exact ⟨0, D, d, all, Nat.zero_le _, by rw [HNA.out], HV2.out.2.1, HV2.out.2.2, hid rfl, hid (fun X M hX => (vals_one hX HNA.out).1), H5⟩
          case round =>
            clear H2 H5 HV2 HS
            obtain ⟨i, B', c', rr, hi, rfl, hrr1, hrr2, HRR, HBR, HS⟩ := hrel
            have HWI := hid (absorbTo_len HW8.out all i)
            have HRL := hid (show rr.length = all.length - 64 * i by rw [HRR.out, List.length_drop])
            unfold maxLen at hrr2
            by_cases h64 : 64 ≤ rr.length
            · have e1 : (0 : Int) < (rr.length : Int) := by omega
              have e2 : (64 : Int) ≤ (c' : Int) := by omega
              have e2b : (64 : Int) ≤ (rr.length : Int) := by omega
              have e3 : 64 ≤ c' := by omega
              obtain ⟨b0, hb0⟩ : ∃ b, rr[0]? = some b := ⟨_, List.getElem?_eq_getElem (by omega)⟩
              obtain ⟨gb, ob, rfl, _, _⟩ := HBR.out wr _ HS.out.at2 0 b0 hb0
              have HTK := hid (show rr.take 64 = (all.drop (64 * i)).take 64 by rw [HRR.out])
              have htl : (rr.take 64).length = 64 := by rw [List.length_take]; omega
              obtain ⟨wn, hwn⟩ : ∃ wn, wn = absorbTo ws all (i + 1) := ⟨_, rfl⟩
              have HPR := hid (show ∀ X M, St W0 (Blk gh (w32 (absorbTo ws all i)) 81 :: Vals [.slice D n d] [all] :: M) X → Calls Tryd.prog 33 #[.agg (w32 (absorbTo ws all i)), .slice (some ⟨gb, ob, none⟩) 64 c'] X fun x w' => x = .returned (.agg (w32 wn)) ∧ Below X.heap.size X w' from fun X M hX => by
                have := press_ok (h := absorbTo ws all i) (n := 64) (c := c') HWI.out (HG.out.below hX.below HG.out.two) ((HBR.out X _ hX.at2).take 64) (by omega) htl e3 (by unfold maxLen; omega)
                rw [hwn, absorbTo, ← HTK.out]
                exact this)
              have HWN := hid hwn
              have HWS2 := hid ((w32_size wn).trans (show wn.length = 8 by rw [hwn]; exact absorbTo_len HW8.out all (i + 1)))
              have HWS3 := hid ((w32_size (absorbTo ws all i)).trans HWI.out)
              have HLD := hid (show ∀ X, St W0 (Blk gh (w32 (absorbTo ws all i)) 81 :: Vals [.slice D n d] [all] :: Blk go (bv (List.replicate 32 0)) 54 :: Blk g (hashV ws (.slice A r.length c) n1) 83 :: Vals [.slice A r.length c] [r] :: L) X → (loadK 81 (.pointer (some ⟨gh, 0, none⟩))).run Tryd.prog X = .ok (.value (.agg (w32 (absorbTo ws all i)))) X from fun X hX => run_loadK_box hX.blk Tryd.underlying81 rfl size8w HWS3.out)
              have HBN := hid (show ∀ X M, St W0 (Vals [.slice D n d] [all] :: M) X → BytesIn X (if c' = 64 then some ⟨gb, ob, none⟩ else some ⟨gb, ob + 64, none⟩) (rr.drop 64) from fun X M hX => by
                by_cases hc : c' = 64
                · rw [List.drop_of_length_le (by omega)]
                  intro k b hk; cases hk
                · rw [if_neg hc]
                  exact (HBR.out X M hX).shift 64)
              clear hb0 htl hwn
              go_wp2_with fail
              refine wp_region_ord [4] [(0, 1), (1, 1), (2, 1), (3, 2), (4, 2)] (fun X => St W0 (Blk gh (w32 (absorbTo ws all i)) 81 :: Vals [.slice D n d] [all] :: Blk go (bv (List.replicate 32 0)) 54 :: Blk g (hashV ws (.slice A r.length c) n1) 83 :: Vals [.slice A r.length c] [r] :: L) X) (by kernel_rfl) (by kernel_rfl) (fun d _ c _ _ h => by cases d <;> exact h) (HS.out.turn (Below.drew (Below.refl _ _))) (fun X hXe hX => ?_)
              clear hXe HS
              repeat (apply wpOrd_class; ((· first | (rw [List.getElem?_toArray, List.getElem?_cons_zero]; done) | (simp only [List.getElem?_toArray, List.getElem?_cons_succ, List.getElem?_cons_zero]; exact rfl))); (· exact rfl); intro K hK; apply Exists.intro; refine And.intro (fun X' hX' => ?_) ?_; (· have hq := HLD.out _ hX'; clear hX'; go_simp; (try go_bits); first | done | exact rfl | exact ⟨rfl, rfl⟩); go_simp; refine hK _ _ ?_; clear hK K)
              (apply wpOrd_comes; ((· first | (rw [List.getElem?_toArray, List.getElem?_cons_zero]; done) | (simp only [List.getElem?_toArray, List.getElem?_cons_succ, List.getElem?_cons_zero]; exact rfl))); intro N hN)
              go_wp2_with (go_at_call 33; (with_reducible refine (HPR.out _ _ hX).mono ?_); rintro v X3 ⟨rfl, hb⟩; have hX3 := hX.turn hb; clear hb)
              refine hN _ _ (fun _ => hX3) ?_
              clear hN N hX
              (apply wpOrd_comes; ((· first | (rw [List.getElem?_toArray, List.getElem?_cons_zero]; done) | (simp only [List.getElem?_toArray, List.getElem?_cons_succ, List.getElem?_cons_zero]; exact rfl))); intro N hN)
              go_wp2_with (refine wpList_store_box 81 _ _ rfl gh rfl rfl (w32 wn) rfl 8 size8w HWS2.out (w32_one _) 81 _ hX3.blk HWS3.out ?_; intro X4 hB hT hs)
              have H4 := hid (hX3.put hB hT)
              rw [HWN.out] at H4
              clear hB hT hs hX3
              refine hN _ _ (fun h => by cases h) ?_
              clear hN N
              refine wpOrd_done ?_
              go_wp2_with fail
              go_roundw
              case rel => exact ⟨i + 1, if c' = 64 then some ⟨gb, ob, none⟩ else some ⟨gb, ob + 64, none⟩, c' - 64, rr.drop 64, by have := HRL.out; omega, by rw [List.length_drop], by rw [List.length_drop]; omega, by unfold maxLen; omega, hid (by rw [HRR.out, List.drop_drop]; congr 1), HBN, H4⟩
              case measure => simp [lenOf]; omega
            · have hl0 : rr.length = 0 := by have := HRL.out; have := HAL.out; omega
              have e1 : ¬ (0 : Int) < (rr.length : Int) := by omega
              have hie : all.length / 64 = i := by have := HRL.out; omega
              rw [hie] at HSM
              obtain ⟨V, hV⟩ : ∃ V, V = absorbTo ws all i := ⟨_, rfl⟩
              have HV8 := hid (show V.length = 8 by rw [hV]; exact HWI.out)
              rw [← hV] at HS HSM
              have HVS := hid ((w32_size V).trans HV8.out)
              have HZ32 := hid (show (bv (List.replicate 32 0)).size = 32 by rw [bv_size, List.length_replicate])
              clear hie hl0 hV HWI
              go_wp2_with (refine wpList_alloc 54 rfl rfl (.agg (bv (List.replicate 32 0))) zero54s ?_; intro g6 W6 h1 hl1 hg1 hW1; have H6 := hid (HS.out.newBlk hW1 hg1 h1); clear h1 hl1 hg1 hW1; have LB2 : (loadK 81 (.pointer (some ⟨gh, 0, none⟩))).run Tryd.prog W6 = .ok (.value (.agg (w32 V))) W6 := run_loadK_box H6.out.at2.blk Tryd.underlying81 rfl size8w HVS.out)
              go_loopw [7, 8, 59] (fun _ _ k X => ∃ j : Nat, j ≤ 8 ∧ k = .int .i64 j ∧ Hid (St W0 (Blk g6 (bv (outTo V j)) 54 :: Blk gh (w32 V) 81 :: Vals [.slice D n d] [all] :: Blk go (bv (List.replicate 32 0)) 54 :: Blk g (hashV ws (.slice A r.length c) n1) 83 :: Vals [.slice A r.length c] [r] :: L) X)) (fun _ _ k _ => 8 - (intOf k).toNat)
              case atStart => exact ⟨0, Nat.zero_le _, rfl, H6⟩
              case round =>
                clear H6 HS
                obtain ⟨j, hj, rfl, HS⟩ := hrel
                by_cases hlt : j < 8
                · have e1 : (j : Int) < 8 := by omega
                  have e0 : (0 : Int) ≤ (j : Int) := by omega
                  obtain ⟨x, hx⟩ : ∃ x, x = V.getD j 0 := ⟨_, rfl⟩
                  have IX : (Instr.index 81 (.agg (w32 V)) (.int .i64 j)).run Tryd.prog wr = .ok (.int .u32 (x.toNat : Int)) wr := by rw [hx]; exact run_index_w32 Tryd.underlying81 Tryd.underlying80 sizeU32 V HV8.out j hlt wr
                  have HXO := hid (show outTo V (j + 1) = ((((outTo V j).set (j * 4) (wordB x 24)).set (j * 4 + 1) (wordB x 16)).set (j * 4 + 2) (wordB x 8)).set (j * 4 + 3) (wordB x 0) by rw [outTo, hx])
                  clear hx
                  obtain ⟨p0, hp0⟩ : ∃ p, p = j * 4 := ⟨_, rfl⟩
                  obtain ⟨p1, hp1⟩ : ∃ p, p = p0 + 1 := ⟨_, rfl⟩
                  obtain ⟨p2, hp2⟩ : ∃ p, p = p0 + 2 := ⟨_, rfl⟩
                  obtain ⟨p3, hp3⟩ : ∃ p, p = p0 + 3 := ⟨_, rfl⟩
                  rw [← hp0, ← hp1, ← hp2, ← hp3] at HXO
                  have em0 : (4 : Int) * (j : Int) = (p0 : Int) := by omega
                  have em1 : (p0 : Int) + 1 = (p1 : Int) := by omega
                  have em2 : (p0 : Int) + 2 = (p2 : Int) := by omega
                  have em3 : (p0 : Int) + 3 = (p3 : Int) := by omega
                  have l0 : (p0 : Int) < 32 := by omega
                  have l1 : (p1 : Int) < 32 := by omega
                  have l2 : (p2 : Int) < 32 := by omega
                  have l3 : (p3 : Int) < 32 := by omega
                  have cc := fun (p : Nat) (hp : p < 32) => (blk_cell HS.out p).trans (bv_get _ _ (by rw [outTo_len V j]; exact hp))
                  have c0 := cc p0 (by omega)
                  have c1 := cc p1 (by omega)
                  have c2 := cc p2 (by omega)
                  have c3 := cc p3 (by omega)
                  have f0 := frozen_of_row wr g6 p0 _ _ HS.out.blk
                  have f1 := frozen_of_row wr g6 p1 _ _ HS.out.blk
                  have f2 := frozen_of_row wr g6 p2 _ _ HS.out.blk
                  have f3 := frozen_of_row wr g6 p3 _ _ HS.out.blk
                  have n01 : p0 ≠ p1 := by omega
                  have n02 : p0 ≠ p2 := by omega
                  have n03 : p0 ≠ p3 := by omega
                  have n12 : p1 ≠ p2 := by omega
                  have n13 : p1 ≠ p3 := by omega
                  have n23 : p2 ≠ p3 := by omega
                  clear cc hp0 hp1 hp2 hp3
                  go_wp2_with fail
                  go_roundw
                  case rel =>
                    refine ⟨j + 1, by omega, by go_num, hid ?_⟩
                    have h := (((HS.out.setCell p0 (.int .u8 ((wordB x 24).toNat : Int))).setCell p1 (.int .u8 ((wordB x 16).toNat : Int))).setCell p2 (.int .u8 ((wordB x 8).toNat : Int))).setCell p3 (.int .u8 ((wordB x 0).toNat : Int))
                    rw [bv_set, bv_set, bv_set, bv_set, ← HXO.out] at h
                    simp only [wordB, u8_cast] at h
                    simpa using h
                  case measure => simp [intOf]; omega
                · have e1 : ¬ (j : Int) < 8 := by omega
                  obtain rfl : j = 8 := by omega
                  rw [← HSM.out] at HS
                  have HO := hid (show (bv out).size = 32 by rw [bv_size, HSM.out]; exact outTo_len V 8)
                  have LB : (loadK 54 (.pointer (some ⟨g6, 0, none⟩))).run Tryd.prog wr = .ok (.value (.agg (bv out))) wr := run_loadK_box HS.out.blk Tryd.underlying54 rfl size54s HO.out
                  go_wp2_with (refine wpList_store_box 54 _ _ rfl go rfl rfl (bv out) rfl 32 size54s HO.out (bv_one _) 54 _ HS.out.at4.blk HZ32.out ?_; intro W5 hB5 hT5 hs5; have H5 := hid (HS.out.at4.put hB5 hT5))
                  exact bodyPost_ret (results_cell rfl _ _ _ go 54 (bv _) (0, 0) rfl hB5 Tryd.underlying54 (by rw [HO.out]; exact size54s)) rfl ⟨rfl, HQ.out _ H5.out.drop.drop.drop.drop⟩
    · have e1 : ¬ (q : Int) = 56 := by omega
      have hk2 : k < K := by
        rcases Nat.lt_or_ge k K with hlt | hge
        · exact hlt
        · exact absurd (by omega) h56
      have hb1 : n + 1 ≤ maxLen := by unfold maxLen; omega
      have hb2 : (n + 1) * 1 ≤ 140737488355328 := by omega
      clear hn hP hq
      go_wp2_with (first | (refine wpList_buildSlice1 _ rfl (.int .u8 0) (by simp [Act.eval]) rfl Tryd.underlying40 zero5s size5s (by decide) (by decide) rfl ?_; intro gn X4 hS hgs hges hX1b; have H4 := hid (HS.out.turn hX1b); have HNW := hid (news_box hS [.int .u8 0] rfl); clear hS hgs hges hX1b) | (refine wpList_append_at _ _ _ rfl (.slice D n d) rfl ⟨gn, 0, none⟩ 1 1 rfl rfl 5 i5 (.int .u8 0) 1 1 Tryd.underlying40 HI.out.1 HI.out.2.1 HI.out.2.2.1 HI.out.2.2.2 rfl (by decide) n (bvL (padTo r k)) H4.out.row [.int .u8 0] rfl HNW.out (by simp [Value.oneCell']) hb1 hb2 ?_; intro v' X5 hO hT hfr; have H5 := hid (H4.out.grow hO hT hfr); obtain ⟨A5, c5, rfl, hc5⟩ := row_slice H5.out; clear hO hT hfr hc5))
      go_roundw
      case rel => exact ⟨_, k + 1, A5, c5, by rw [HN.out]; omega, by omega, rfl, by
        have h := H5.out
        rw [show bvL (padTo r k) ++ [Value.int .u8 0] = bvL (padTo r (k + 1)) by rw [← padTo_step]; simp [bvL]] at h
        exact hid h⟩
      case measure => simp [lenOf]; have := HN.out; have := HP.out; omega
end
end Go.Proofs.YthmchbdhikakhaaDoor
/- The sum of parts. -/
namespace Go.Cu
open Go Go.RowKit
/-- Parts that lie in memory wherever L holds. -/
def PartsIn (W0 : World) (L : List Atm) (A : Option Addr) (ps : List (List UInt8)) : Prop := ∀ i b, ps[i]? = some b → ∃ g o B cb, A = some ⟨g, o, none⟩ ∧ b.length ≤ cb ∧ cb ≤ maxLen ∧ ∀ X, St W0 L X → X.cell? ⟨g, o + i, none⟩ = some (.slice B b.length cb) ∧ BytesIn X B b
theorem take_flat_le (ps : List (List UInt8)) (i : Nat) : (ps.take i).flatten.length ≤ ps.flatten.length := by
  have h : ps.flatten = (ps.take i).flatten ++ (ps.drop i).flatten := by rw [← List.flatten_append, List.take_append_drop]
  rw [h, List.length_append]; omega
theorem take_flat_step {ps : List (List UInt8)} {i : Nat} {b : List UInt8} (h : ps[i]? = some b) : (ps.take i).flatten ++ b = (ps.take (i + 1)).flatten := by
  rw [List.take_add_one, h, List.flatten_append]
  simp
end Go.Cu
namespace Go.Proofs.YthmchbdhikakhaaDoor
open Go.RowKit Go.Cu
section
variable {W0 W : World} {L : List Atm}
set_option maxRecDepth 20000 in
set_option maxHeartbeats 8000000 in
theorem sha_st (h : St W0 L W) (hG : Glob W0) {A : Option Addr} {c : Nat} {ps : List (List UInt8)} (hp : PartsIn W0 L A ps) (hps : ps.length ≤ 1000000) (hm : ps.flatten.length ≤ 1000000000000) :
    Calls Tryd.prog 14 #[.slice A ps.length c] W fun x w' => x = .returned (.agg (bv (sumL ps.flatten))) ∧ St W0 L w' := by
  have HH := hid h
  have HP := hid hp
  have HN := hid (fun X (M : List Atm) (hX : St W0 M X) => hnew_st hX hG)
  have HW := hid (fun X (i : Nat) (b : List UInt8) (hi : ps[i]? = some b) (go g : Nat) (A1 : Option Addr) (c1 : Nat) (B : Option Addr) (cb : Nat) (h1 : b.length ≤ cb) (h2 : cb ≤ maxLen) (h3 : ∀ X, St W0 L X → BytesIn X B b) (hX : St W0 (Hashed g A1 c1 (ps.take i).flatten (Blk go (bv (List.replicate 32 0)) 54 :: L)) X) =>
    (hwrite_st hX hG (B := B) (cb := cb) (b := b) (fun Y hY => h3 Y hY.drop) h1 h2 (by
      have := take_flat_le ps (i + 1)
      rw [← take_flat_step hi, List.length_append] at this
      omega)))
  have HS := hid (fun X (go g : Nat) (A1 : Option Addr) (c1 : Nat) (hX : St W0 (Hashed g A1 c1 ps.flatten (Blk go (bv (List.replicate 32 0)) 54 :: L)) X) => hsum_st hX hG hm)
  have HSL := hid (show (bv (sumL ps.flatten)).size = 32 by rw [bv_size]; exact sumL_len _)
  have HZ32 := hid (show (bv (List.replicate 32 0)).size = 32 by rw [bv_size, List.length_replicate])
  clear h hG hp hm
  go_enter Tryd.func14, Tryd.ntmps14
  go_wp2_with (first | (refine wpList_alloc 54 rfl rfl (.agg (bv (List.replicate 32 0))) zero54s ?_; intro go W1 h1 hl1 hg1 hW1; have H1 := hid (HH.out.newBlk hW1 hg1 h1); clear h1 hl1 hg1 hW1) | (go_at_call 25; (with_reducible refine (HN.out _ _ H1.out).mono ?_); rintro x W2 ⟨g, rfl, h2⟩; have H2 := hid h2; clear h2))
  go_loopw [5, 9] (fun _ k X => ∃ (i : Nat) (A1 : Option Addr) (c1 : Nat), i ≤ ps.length ∧ k = .int .i64 i ∧ Hid (St W0 (Hashed g A1 c1 (ps.take i).flatten (Blk go (bv (List.replicate 32 0)) 54 :: L)) X)) (fun _ k _ => ps.length - (intOf k).toNat)
  case atStart => exact ⟨0, none, 0, Nat.zero_le _, rfl, H2⟩
  case round =>
    clear H1 H2
    obtain ⟨i, A1, c1, hi, rfl, HR⟩ := hrel
    by_cases hlt : i < ps.length
    · have e1 : (i : Int) < (ps.length : Int) := by omega
      have e0 : (0 : Int) ≤ (i : Int) := by omega
      have HE := hid (List.getElem?_eq_getElem hlt)
      obtain ⟨b, hb⟩ : ∃ b, ps[i]? = some b := ⟨_, HE.out⟩
      have HB := hid hb
      obtain ⟨ga, oa, B, cb, rfl, hc1, hc2, hX3⟩ := HP.out i b hb
      have cx := (hX3 _ HR.out.drop.drop.drop).1
      have HX3 := hid (fun X hX => (hX3 X hX).2)
      clear hb hX3
      go_wp2_with (go_at_call 26; (with_reducible refine (HW.out _ i b HB.out go g A1 c1 B cb hc1 hc2 HX3.out HR.out).mono ?_); rintro x W4 ⟨rfl, A4, c4, h4⟩; rw [take_flat_step HB.out] at h4; have H4 := hid h4; clear h4)
      go_roundw
      case rel => exact ⟨i + 1, A4, c4, by omega, by go_num, H4⟩
      case measure => simp [intOf]; omega
    · have e1 : ¬ (i : Int) < (ps.length : Int) := by omega
      obtain rfl : i = ps.length := by omega
      rw [List.take_length] at HR
      go_wp2_with (first | (go_at_call 27; (with_reducible refine (HS.out _ go g A1 c1 HR.out).mono ?_); rintro x W5 ⟨rfl, h5⟩; have H5 := hid h5.drop.drop; clear h5) | (refine wpList_store_box 54 _ _ rfl go rfl rfl (bv (sumL ps.flatten)) rfl 32 size54s HSL.out (bv_one _) 54 _ H5.out.blk HZ32.out ?_; intro W6 hB6 hT6 hs6; have H6 := hid (H5.out.put hB6 hT6)))
      exact bodyPost_ret (results_cell rfl _ _ _ go 54 (bv _) (0, 0) rfl hB6 Tryd.underlying54 (by rw [HSL.out]; exact size54s)) rfl ⟨rfl, H6.out.drop⟩
end
end Go.Proofs.YthmchbdhikakhaaDoor
/- The sum of "abc": by tables of states. -/
namespace Go.Cu
open Go Go.RowKit
def abcB : List UInt8 := [97, 98, 99]
def abcW : List UInt32 := [1633837952, 0, 0, 0, 0, 0, 0, 0, 0, 0, 0, 0, 0, 0, 0, 24, 1633837952, 983040, 2108187653, 1610613702, 1050508152, 25426944, 316456923, 3806512014, 3357629466, 3073800610, 3854317833, 845560923, 2636160359, 3968280267, 1881225380, 3552024379, 2482346367, 996719219, 2952069057, 4043988066, 176896406, 1924104970, 2483675966, 610538786, 2672279444, 4037431130, 1042573945, 657669027, 206005234, 2215296807, 2049510749, 106709978, 4215179723, 3430291419, 3118885940, 2845390439, 2226839261, 3256115900, 344409900, 2987358873, 4015503821, 3957764664, 2682456414, 2025622859, 2755645205, 1720397816, 4004225740, 313650667]
def abcS : List (List UInt32) := [[1779033703, 3144134277, 1013904242, 2773480762, 1359893119, 2600822924, 528734635, 1541459225],
  [1567288269, 1779033703, 3144134277, 1013904242, 4197074466, 1359893119, 2600822924, 528734635],
  [1516951981, 1567288269, 1779033703, 3144134277, 2026797449, 4197074466, 1359893119, 2600822924],
  [3368241063, 1516951981, 1567288269, 1779033703, 4180228587, 2026797449, 4197074466, 1359893119],
  [3578852966, 3368241063, 1516951981, 1567288269, 618661968, 4180228587, 2026797449, 4197074466],
  [71342698, 3578852966, 3368241063, 1516951981, 1135452741, 618661968, 4180228587, 2026797449],
  [725748213, 71342698, 3578852966, 3368241063, 1900175533, 1135452741, 618661968, 4180228587],
  [3842179968, 725748213, 71342698, 3578852966, 2603066369, 1900175533, 1135452741, 618661968],
  [2241887071, 3842179968, 725748213, 71342698, 207977081, 2603066369, 1900175533, 1135452741],
  [2382687417, 2241887071, 3842179968, 725748213, 852110732, 207977081, 2603066369, 1900175533],
  [2357671019, 2382687417, 2241887071, 3842179968, 482944406, 852110732, 207977081, 2603066369],
  [1201185780, 2357671019, 2382687417, 2241887071, 1131095016, 482944406, 852110732, 207977081],
  [4146054569, 1201185780, 2357671019, 2382687417, 2171590377, 1131095016, 482944406, 852110732],
  [2274437520, 4146054569, 1201185780, 2357671019, 509051416, 2171590377, 1131095016, 482944406],
  [3643992854, 2274437520, 4146054569, 1201185780, 1952073950, 509051416, 2171590377, 1131095016],
  [3227803614, 3643992854, 2274437520, 4146054569, 194179596, 1952073950, 509051416, 2171590377],
  [2969183118, 3227803614, 3643992854, 2274437520, 123276749, 194179596, 1952073950, 509051416],
  [567974555, 2969183118, 3227803614, 3643992854, 2150900380, 123276749, 194179596, 1952073950],
  [3271285201, 567974555, 2969183118, 3227803614, 2221859924, 2150900380, 123276749, 194179596],
  [4269243327, 3271285201, 567974555, 2969183118, 3431569761, 2221859924, 2150900380, 123276749],
  [3790736435, 4269243327, 3271285201, 567974555, 2959311225, 3431569761, 2221859924, 2150900380],
  [2647034723, 3790736435, 4269243327, 3271285201, 2329577776, 2959311225, 3431569761, 2221859924],
  [3261099373, 2647034723, 3790736435, 4269243327, 3777329520, 2329577776, 2959311225, 3431569761],
  [2812502591, 3261099373, 2647034723, 3790736435, 1240797514, 3777329520, 2329577776, 2959311225],
  [3319086477, 2812502591, 3261099373, 2647034723, 2856829767, 1240797514, 3777329520, 2329577776],
  [472655928, 3319086477, 2812502591, 3261099373, 673443729, 2856829767, 1240797514, 3777329520],
  [3454534525, 472655928, 3319086477, 2812502591, 339230094, 673443729, 2856829767, 1240797514],
  [3056518332, 3454534525, 472655928, 3319086477, 3343672598, 339230094, 673443729, 2856829767],
  [2010346792, 3056518332, 3454534525, 472655928, 3992961016, 3343672598, 339230094, 673443729],
  [909411017, 2010346792, 3056518332, 3454534525, 1628611511, 3992961016, 3343672598, 339230094],
  [2684750640, 909411017, 2010346792, 3056518332, 2917635127, 1628611511, 3992961016, 3343672598],
  [3935906338, 2684750640, 909411017, 2010346792, 17410874, 2917635127, 1628611511, 3992961016],
  [1941126133, 3935906338, 2684750640, 909411017, 3126399250, 17410874, 2917635127, 1628611511],
  [2564891911, 1941126133, 3935906338, 2684750640, 2631529974, 3126399250, 17410874, 2917635127],
  [4267724277, 2564891911, 1941126133, 3935906338, 1495571923, 2631529974, 3126399250, 17410874],
  [2846323596, 4267724277, 2564891911, 1941126133, 140458035, 1495571923, 2631529974, 3126399250],
  [1705037796, 2846323596, 4267724277, 2564891911, 4105175766, 140458035, 1495571923, 2631529974],
  [1101421745, 1705037796, 2846323596, 4267724277, 124953195, 4105175766, 140458035, 1495571923],
  [887035396, 1101421745, 1705037796, 2846323596, 2768741693, 124953195, 4105175766, 140458035],
  [1841658506, 887035396, 1101421745, 1705037796, 4034403272, 2768741693, 124953195, 4105175766],
  [2045405306, 1841658506, 887035396, 1101421745, 519815328, 4034403272, 2768741693, 124953195],
  [3597076326, 2045405306, 1841658506, 887035396, 641019235, 519815328, 4034403272, 2768741693],
  [3745932591, 3597076326, 2045405306, 1841658506, 2206934801, 641019235, 519815328, 4034403272],
  [397020670, 3745932591, 3597076326, 2045405306, 3737995029, 2206934801, 641019235, 519815328],
  [2638983059, 397020670, 3745932591, 3597076326, 4255271982, 3737995029, 2206934801, 641019235],
  [643991573, 2638983059, 397020670, 3745932591, 2819559920, 4255271982, 3737995029, 2206934801],
  [1923828625, 643991573, 2638983059, 397020670, 3077922209, 2819559920, 4255271982, 3737995029],
  [2706117808, 1923828625, 643991573, 2638983059, 3581645993, 3077922209, 2819559920, 4255271982],
  [1098003085, 2706117808, 1923828625, 643991573, 4274981830, 3581645993, 3077922209, 2819559920],
  [91585771, 1098003085, 2706117808, 1923828625, 3178315832, 4274981830, 3581645993, 3077922209],
  [4045142696, 91585771, 1098003085, 2706117808, 1851537676, 3178315832, 4274981830, 3581645993],
  [2047150241, 4045142696, 91585771, 1098003085, 1391578359, 1851537676, 3178315832, 4274981830],
  [2288941602, 2047150241, 4045142696, 91585771, 1227037726, 1391578359, 1851537676, 3178315832],
  [270520975, 2288941602, 2047150241, 4045142696, 1386118400, 1227037726, 1391578359, 1851537676],
  [4117770203, 270520975, 2288941602, 2047150241, 2672265155, 1386118400, 1227037726, 1391578359],
  [1053056219, 4117770203, 270520975, 2288941602, 3842906959, 2672265155, 1386118400, 1227037726],
  [952932627, 1053056219, 4117770203, 270520975, 1422599787, 3842906959, 2672265155, 1386118400],
  [4241590395, 952932627, 1053056219, 4117770203, 2606665836, 1422599787, 3842906959, 2672265155],
  [3227702383, 4241590395, 952932627, 1053056219, 2118385806, 2606665836, 1422599787, 3842906959],
  [4290184306, 3227702383, 4241590395, 952932627, 1837350854, 2118385806, 2606665836, 1422599787],
  [3064893439, 4290184306, 3227702383, 4241590395, 2988158269, 1837350854, 2118385806, 2606665836],
  [3093179625, 3064893439, 4290184306, 3227702383, 2518632596, 2988158269, 1837350854, 2118385806],
  [80891244, 3093179625, 3064893439, 4290184306, 2492278198, 2518632596, 2988158269, 1837350854],
  [3550093669, 80891244, 3093179625, 3064893439, 4212265488, 2492278198, 2518632596, 2988158269],
  [1349398616, 3550093669, 80891244, 3093179625, 1593118500, 4212265488, 2492278198, 2518632596]]
def abcF : List UInt32 := [3128432319, 2399260650, 1094795486, 1571693091, 2953011619, 2518121116, 3021012833, 4060091821]
def abcO : List UInt8 := [186, 120, 22, 191, 143, 1, 207, 234, 65, 65, 64, 222, 93, 174, 34, 35, 176, 3, 97, 163, 150, 23, 122, 156, 180, 16, 255, 97, 242, 0, 21, 173]
def abcPart (i : Nat) : List UInt32 := abcW.take (16 + i) ++ List.replicate (48 - i) 0
set_option maxRecDepth 100000 in
theorem abc_words : wordsTo ((tailL abcB).take 64) 64 = abcPart 0 := by decide +kernel
set_option maxRecDepth 100000 in
theorem abc_mix : ∀ i, i < 48 → (abcPart i).set (16 + i) (mixW (abcPart i) (16 + i)) = abcPart (i + 1) := by decide +kernel
theorem abc_spreadTo : ∀ i, i ≤ 48 → spreadTo ((tailL abcB).take 64) i = abcPart i
  | 0, _ => abc_words
  | i + 1, h => by rw [spreadTo, abc_spreadTo i (by omega), abc_mix i (by omega)]
theorem abc_spread : spreadW ((tailL abcB).take 64) = abcW := (abc_spreadTo 48 (Nat.le_refl _)).trans (by decide +kernel)
set_option maxRecDepth 100000 in
theorem abc_round : ∀ i, i < 64 → stepW (abcS.getD i []) (roundsL.getD i 0) (abcW.getD i 0) = abcS.getD (i + 1) [] := by decide +kernel
theorem abc_roundsTo : ∀ i, i ≤ 64 → roundsTo startL abcW i = abcS.getD i []
  | 0, _ => by decide +kernel
  | i + 1, h => by rw [roundsTo, abc_roundsTo i (by omega), abc_round i (by omega)]
set_option maxRecDepth 100000 in
theorem abc_add : addTo startL (abcS.getD 64 []) 8 = abcF := by decide +kernel
theorem abc_press : pressW startL ((tailL abcB).take 64) = abcF := by
  unfold pressW
  rw [abc_spread, abc_roundsTo 64 (Nat.le_refl _), abc_add]
theorem abc_start : wordsOf abcB = startL := by decide +kernel
theorem abc_len : (tailL abcB).length / 64 = 1 := by decide +kernel
set_option maxRecDepth 100000 in
theorem abc_out : outTo abcF 8 = abcO := by decide +kernel
theorem abc_sum : sumL abcB = abcO := by
  unfold sumL
  rw [abc_start, abc_len]
  show outTo (pressW startL ((tailL abcB).take 64)) 8 = _
  rw [abc_press, abc_out]
end Go.Cu
/- Does the sum stand? -/
namespace Go.Cu
open Go Go.RowKit
section
variable {W0 W : World} {L : List Atm}
/-- A constant's bytes: the new row bears a mark behind its last cell. -/
theorem St.marked' (h : St W0 L W) (r : List UInt8) (e : TypeId) (n m : Nat) (hr : r.length ≤ maxLen) : St W0 (Vals [.slice (some ⟨W.heap.size, 0, none⟩) r.length r.length] [r] :: L) (W.alloc (.cells (bv r) e (n, m))) := by
  have hat : (W.alloc (.cells (bv r) e (n, m))).heap[W.heap.size]? = some (.cells (bv r) e (n, m)) := heap_alloc_at _ _ rfl
  refine h.push ((Below.refl _ _).alloc (Nat.le_refl _) _) ⟨rfl, fun i q hi => ?_⟩
  match i with
  | i + 1 => cases hi
  | 0 =>
    obtain rfl : r = q := by simpa using hi
    refine ⟨_, _, rfl, Nat.le_refl _, hr, fun k b hb => ⟨W.heap.size, 0, rfl, Nat.le_refl _, heap_lt hat, ?_⟩⟩
    rw [Nat.zero_add, cell_of_row _ W.heap.size k _ _ _ hat, bv_eq, List.getElem?_toArray]
    unfold bvL
    rw [List.getElem?_map, hb]
    rfl
end
end Go.Cu
namespace Go.Proofs.YthmchbdhikakhaaDoor
open Go.RowKit Go.Cu
theorem zeroBYs (W : World) : (zeroValue 40).run Tryd.prog W = .ok (.slice none 0 0) W := by kernel_rfl
theorem sizeBYs : (Tryd.prog.info? 40).map (·.size) = some 1 := by kernel_rfl
section
variable {W0 W : World} {L : List Atm}
theorem abc_sha {X : World} {gs gb : Nat} (hX : St W0 (Blk gs #[.slice (some ⟨gb, 0, none⟩) 3 3] 40 :: Vals [.slice (some ⟨gb, 0, none⟩) 3 3] [[97, 98, 99]] :: L) X) (hG : Glob W0) :
    Calls Tryd.prog 14 #[.slice (some ⟨gs, 0, none⟩) 1 1] X fun x w' => x = .returned (.agg (bv abcO)) ∧ St W0 (Blk gs #[.slice (some ⟨gb, 0, none⟩) 3 3] 40 :: Vals [.slice (some ⟨gb, 0, none⟩) 3 3] [[97, 98, 99]] :: L) w' := by
  have hp : PartsIn W0 (Blk gs #[.slice (some ⟨gb, 0, none⟩) 3 3] 40 :: Vals [.slice (some ⟨gb, 0, none⟩) 3 3] [[97, 98, 99]] :: L) (some ⟨gs, 0, none⟩) [[97, 98, 99]] := fun i b hi => by
    match i with
    | i + 1 => cases hi
    | 0 =>
      obtain rfl : [97, 98, 99] = b := by simpa using hi
      exact ⟨gs, 0, some ⟨gb, 0, none⟩, 3, rfl, Nat.le_refl _, by decide, fun Y hY => ⟨(cell_of_row Y gs 0 _ _ _ hY.blk).trans rfl, (vals_one hY.at2 rfl).1⟩⟩
  have h := sha_st hX hG (c := 1) hp (by decide) (by decide)
  rw [show ([[97, 98, 99]] : List (List UInt8)).flatten = abcB from rfl, abc_sum] at h
  exact h
set_option maxRecDepth 20000 in
set_option maxHeartbeats 8000000 in
theorem stands_st (h : St W0 L W) (hG : Glob W0) : Calls Tryd.prog 6 #[] W fun x w' => x = .returned (.bool true) ∧ St W0 L w' := by
  have HH := hid h
  have kc := fun (w : World) (C : Array Value) (n c : Nat) => Lib.run_convert_bytes_const (P := Tryd.prog) w 40 5 C n c Tryd.underlying40 Tryd.underlying5
  have HS := hid (fun (X : World) (gs gb : Nat) hX => abc_sha (L := L) (gs := gs) (gb := gb) (X := X) hX hG)
  have HZ := hid (show (bv abcO).size = 32 by decide)
  have HZ32 := hid (show (bv (List.replicate 32 0)).size = 32 by rw [bv_size, List.length_replicate])
  clear h hG
  go_enter Tryd.func6, Tryd.ntmps6
  go_wp2_with (first | (refine wpList_buildSlice1 _ rfl (.slice (some ⟨W.heap.size, 0, none⟩) 3 3) (by simp [Act.eval]) rfl Tryd.underlying22 zeroBYs sizeBYs (by decide) (by decide) rfl ?_; intro gs X4 hS hgs hges hX1b; have H4 := hid (show St W0 (Blk gs #[.slice (some ⟨W.heap.size, 0, none⟩) 3 3] 40 :: Vals [.slice (some ⟨W.heap.size, 0, none⟩) 3 3] [[97, 98, 99]] :: L) X4 from (HH.out.marked' [97, 98, 99] 5 3 4 (by decide)).newBlk hX1b hges hS); clear hS hgs hges hX1b) | (go_at_call 14; (with_reducible refine (HS.out _ _ _ H4.out).mono ?_); rintro r w3 ⟨rfl, hs3⟩; have H5 := hid hs3; clear hs3) | (refine wpList_alloc 54 rfl rfl (.agg (bv (List.replicate 32 0))) zero54s ?_; intro go W5 h1 hl1 hg1 hW1; have H6 := hid (H5.out.newBlk hW1 hg1 h1); clear h1 hl1 hg1 hW1) | (refine wpList_store_box 54 _ _ rfl go rfl rfl (bv abcO) rfl 32 size54s HZ.out (bv_one _) 54 _ H6.out.blk HZ32.out ?_; intro W6 hB6 hT6 hs6; have H7 := hid (H6.out.put hB6 hT6); have c0 : W6.cell? ⟨go, 0, none⟩ = some (.int .u8 186) := (cell_of_row W6 go 0 _ _ _ H7.out.blk).trans rfl; have c31 : W6.cell? ⟨go, 31, none⟩ = some (.int .u8 173) := (cell_of_row W6 go 31 _ _ _ H7.out.blk).trans rfl; clear hB6 hT6 hs6))
  go_ret
  exact ⟨rfl, H7.out.drop.drop.drop⟩
end
end Go.Proofs.YthmchbdhikakhaaDoor
/- Texts appended to a row of texts. -/
namespace Go.Cu
open Go Go.RowKit
section
variable {P : Program}
theorem wpList_append_texts {ops : Array Oper} {rest : List Oper} {o : Oper} {a : Act} {w : World} {Q : Exit → Act → World → Prop} (s x : Operand) (t : TypeId)
    (ho : o.op = .call { callee := .builtin .append, args := #[s, x], argTypes := #[t, t] }) (v : Value) (hs : a.eval s = v) (B : Option Addr) (c : Nat) (rs : List (List UInt8)) (hx : a.eval x = .slice B rs.length c) (hw : Region.wanted o (yielded ops a.tmps) = true)
    (e : TypeId) (i : TypeInfo) (z : Value) (ht : P.underlying t = some (.slice e)) (hi : P.info? e = some i) (hz : i.zero = some z) (hzs : z.cells.size = 1)
    (hsize : i.size = 1) (hby : i.bytes = 16)
    (n : Nat) (xs : List Value) (hown : w.ownsRow 0 e 1 v n xs) (hb : TextsIn w B rs)
    (h63 : n + rs.length ≤ 1000000)
    (h : ∀ v' w', w'.ownsRow 0 e 1 v' (n + rs.length) (xs ++ rs.map sv) → Tch (fun g => v.ownBlock = some g) w w' → (v'.ownBlock = v.ownBlock ∨ v'.ownBlock = some w.heap.size) → wpList P ops Q rest (a.put o.dst v') w') : wpList P ops Q (o :: rest) a w := by
  match rs, hb, h63, h, hx with
  | [], hb, h63, h, hx =>
    refine wpList_wanted hw fun K hK => ?_
    have hrun := run_append_zero 0 t o.type e i 1 ht hi v n xs hown B c
    unfold Oper.wp execOp
    simp only [ho, resolve, invoke, builtin, Sem.run_bind, Sem.run_pure, Result.andThen_ok, List.map_toArray, List.map_cons, List.map_nil, hs, hx, List.length_nil, hrun]
    exact hK _ _ (h v w (by simpa using hown) (Tch.refl _ _) (.inl rfl))
  | r :: rs, hb, h63, h, hx =>
    obtain ⟨g, o', rfl, _⟩ := hb 0 r rfl
    refine wpList_append_at s x t ho v hs ⟨g, o', none⟩ (r :: rs).length c hx hw e i z 1 16 ht hi hz hsize hby hzs (by decide) n xs hown ((r :: rs).map sv) (by simp) (fun j u hj => ?_) (fun u hu => ?_) (by unfold maxLen; omega) (by omega) h
    · rw [List.getElem?_map] at hj
      cases hq : (r :: rs)[j]? with
      | none => rw [hq] at hj; cases hj
      | some q =>
        rw [hq] at hj
        obtain rfl : sv q = u := by simpa using hj
        obtain ⟨g', o2, e', hc⟩ := hb j q hq
        cases e'
        have e3 : (⟨g, o', none⟩ : Addr).add j = ⟨g, o' + j, none⟩ := by unfold Addr.add; split <;> simp_all
        rw [e3]
        exact hc
    · obtain ⟨q, _, rfl⟩ := List.mem_map.1 hu
      rfl
end
section
variable {W0 W : World} {L : List Atm}
/-- One of the records, behind a slice of that one alone. -/
theorem recsIn_one {A : Option Addr} {rs : List (List UInt8)} {X : World} (h : RecsIn X A rs) {k : Nat} {r : List UInt8} (hr : rs[k]? = some r) {g o : Nat} (hA : A = some ⟨g, o, none⟩) : RecsIn X (some ⟨g, o + k, none⟩) [r] := fun i q hq => by
  match i with
  | i + 1 => cases hq
  | 0 =>
    obtain rfl : r = q := by simpa using hq
    obtain ⟨g', o', B, c, e, hc, h1, h2, h3⟩ := h k r hr
    rw [hA] at e
    cases e
    exact ⟨g, o + k, B, c, rfl, hc, h1, h2, h3⟩
end
end Go.Cu
/- Len, Room; a fresh journal. -/
namespace Go.Proofs.YthmchbdhikakhaaDoor
open Go.RowKit Go.Cu
section
variable {W0 W : World} {L : List Atm} {p j : Nat} {S : DS} {N : Nat} {J : Jn}
/-- A journal of so many blocks on a new disk. -/
def freshD (s : Nat) : DS := ((DS.new (s + 4)).wipe s 3).1
theorem fresh_quiet (s : Nat) : ((DS.new (s + 4)).wipe s 3).2 = 0 ∧ (freshD s).armed = 0 ∧ (freshD s).now.length = s + 4 ∧ Quiet (freshD s) ⟨3, s, 0, 0⟩ [] ⟨3, s, 0, 0⟩ := Zeros.fresh (by omega)
theorem wipe_ok' : ∀ (m q : Nat) {S : DS} {N : Nat}, S.Ok N → (S.wipe m q).1.Ok (N + m)
  | 0, _, _, _, h => h.sync
  | m + 1, q, S, N, h => by
    have hw := h.write (q : Int) zeroB_len
    rw [DS.wipe]
    split
    · exact hw.mono (by omega)
    · exact (wipe_ok' m (q + 1) hw).mono (by omega)
theorem freshD_ok {s : Nat} (hs : s ≤ 1000) : (freshD s).Ok 1000 := (wipe_ok' s 3 (DS.Ok.new (n := s + 4) (by omega))).mono (by omega)
end
end Go.Proofs.YthmchbdhikakhaaDoor
/- fill: records, till the power goes off, or one has no room. -/
namespace Go.Cu
open Go Go.RowKit
theorem tailS_len {J : Jn} {rec : List UInt8} : ∀ (m k : Nat) (S : DS), (S.tailS J rec m k).1.now.length = S.now.length
  | 0, _, _ => rfl
  | m + 1, k, S => by
    rw [DS.tailS]
    split
    · exact write_len' _ _ _
    · rw [tailS_len m (k + 1)]; exact write_len' _ _ _
theorem append_len' (S : DS) (J : Jn) (rec : List UInt8) : (S.append J rec).1.now.length = S.now.length := by
  have h1 : (S.tailA J rec).1.now.length = S.now.length := by
    unfold DS.tailA
    split
    · exact tailS_len _ _ _
    · split
      · exact tailS_len _ _ _
      · rw [sync_len']; exact tailS_len _ _ _
  unfold DS.append
  split
  · rfl
  · split
    · rfl
    · split
      · exact h1
      · unfold DS.headA
        split
        · rw [write_len']; exact h1
        · rw [sync_len', write_len']; exact h1
theorem append_room {S : DS} {J : Jn} {rec : List UInt8} : (S.append J rec).2 = 0 → blocksN rec.length ≤ J.size - J.used := by
  unfold DS.append
  split
  · intro h; cases h
  · split
    · intro h; cases h
    · intro _; omega
/-- Records behind a slice, the same in all worlds of a kind. -/
def RecsAll (P : World → Prop) (A : Option Addr) (rs : List (List UInt8)) : Prop := ∀ i r, rs[i]? = some r → ∃ g o B c, A = some ⟨g, o, none⟩ ∧ r.length ≤ c ∧ c ≤ maxLen ∧ ∀ X, P X → X.cell? ⟨g, o + i, none⟩ = some (.slice B r.length c) ∧ BytesIn X B r
theorem RecsAll.imp {P Q : World → Prop} {A : Option Addr} {rs : List (List UInt8)} (h : RecsAll P A rs) (hq : ∀ X, Q X → P X) : RecsAll Q A rs := fun i r hi => by
  obtain ⟨g, o, B, c, e, h1, h2, h3⟩ := h i r hi
  exact ⟨g, o, B, c, e, h1, h2, fun X hX => h3 X (hq X hX)⟩
theorem RecsAll.recsIn {P : World → Prop} {A : Option Addr} {rs : List (List UInt8)} (h : RecsAll P A rs) {X : World} (hX : P X) : RecsIn X A rs := fun i r hi => by
  obtain ⟨g, o, B, c, e, h1, h2, h3⟩ := h i r hi
  exact ⟨g, o, B, c, e, (h3 X hX).1, h1, h2, (h3 X hX).2⟩
theorem recsAll_row {W0 W : World} {L : List Atm} {A : Option Addr} {c : Nat} {xs : List Value} {rs : List (List UInt8)} (h : St W0 (Row (.slice A rs.length c) 40 1 rs.length xs :: Vals xs rs :: L) W) :
    RecsAll (fun X => ∃ M, St W0 (Row (.slice A rs.length c) 40 1 rs.length xs :: Vals xs rs :: M) X) A rs := fun i r hi => by
  obtain ⟨B, cB, e1, h1, h2, h3⟩ := h.at2.vals.2 i r hi
  obtain ⟨g, e2, hc⟩ := row_at h rfl e1
  refine ⟨g, 0, B, cB, e2, h1, h2, fun X ⟨M, hX⟩ => ?_⟩
  obtain ⟨B', cB', e1', h1', h2', h3'⟩ := hX.at2.vals.2 i r hi
  rw [e1] at e1'
  obtain ⟨rfl, rfl⟩ : B = B' ∧ cB = cB' := by
    have := Option.some.inj e1'
    injection this with p1 p2 p3
    exact ⟨p1, p3⟩
  obtain ⟨g', e2', hc'⟩ := row_at hX rfl e1
  rw [e2] at e2'
  cases e2'
  exact ⟨by rw [Nat.zero_add]; exact hc', h3'.bytes⟩
/-- Records of the caller. -/
theorem recsAll_caller {W0 : World} {A : Option Addr} {rs : List (List UInt8)} (h : RecsIn W0 A rs) : RecsAll (fun X => Below W0.heap.size W0 X) A rs := fun i r hi => by
  obtain ⟨g, o, B, c, e, hc, h1, h2, h3⟩ := h i r hi
  exact ⟨g, o, B, c, e, h1, h2, fun X hX => ⟨(hX.cell (p := ⟨g, o + i, none⟩) (cell_lt hc)).trans hc, h3.below hX⟩⟩
end Go.Cu
namespace Go.Proofs.YthmchbdhikakhaaDoor
open Go.RowKit Go.Cu
theorem append_ok {S : DS} {N : Nat} (h : S.Ok N) (J : Jn) {rec : List UInt8} (hl : rec.length ≤ 65535) : (S.append J rec).1.Ok (N + 700) := by
  unfold DS.append
  rw [if_neg (by omega)]
  split
  · exact h.mono (by omega)
  · have h1 := tailA_ok h J rec rfl (blocksN_le hl)
    split
    · exact h1.mono (by omega)
    · have hw := h1.write ((J.first + J.used : Nat) : Int) (blockB_len J.n 0 rec)
      unfold DS.headA
      split
      · exact hw.mono (by omega)
      · exact hw.sync.mono (by omega)
theorem jn_more {J : Jn} {n : Nat} (h : J.Ok n) {l : Nat} (hl : blocksN l ≤ J.size - J.used) : (J.more l).Ok n := by
  have := blocksN_pos l
  have h1 := h.fits
  have h2 := h.used
  have h3 := h.few
  exact ⟨h1, by show J.used + blocksN l ≤ J.size; omega, by show J.n + 1 ≤ J.used + blocksN l; omega, h.big⟩
section
variable {W0 W : World} {L : List Atm} {p j : Nat} {S : DS} {M0 : Nat} {J : Jn}
end
end Go.Proofs.YthmchbdhikakhaaDoor
/- CustumalApart's walk. -/
namespace Go.Proofs.YthmchbdhikakhaaDoor
open Go.RowKit Go.Cu
section
variable {W0 W : World} {L : List Atm}
theorem St.rowNil {v : Value} (hv : v = .slice none 0 0) (e s : Nat) (h : St W0 L W) : St W0 (Row v e s 0 [] :: L) W := by
  subst hv
  exact h.push (Below.refl _ _) ⟨fun g' hg' => (by cases hg'), World.ownsRow_nil _ _ _ _⟩
/-- The memory of the law: the disk, the rows of what is kept, their block, the extents and the records. -/
abbrev apartQ (A : Nat → Option Addr) (c : Nat → Nat) (qs : Nat → List (List UInt8)) (g3 x p gk : Nat) (rs : Nat → List (List UInt8)) (v : Nat → Value) (i : Nat) : List Atm :=
  [Row (v (1 - i)) 9 1 (rs (1 - i)).length ((rs (1 - i)).map sv), Blk gk #[v 0, v 1] 34, Blk x (extV p ⟨4, 3, 12⟩) 53, Blk g3 #[.slice (A 0) (qs 0).length (c 0), .slice (A 1) (qs 1).length (c 1)] 23]
abbrev apartL (A : Nat → Option Addr) (c : Nat → Nat) (qs : Nat → List (List UInt8)) (g3 x p gk : Nat) (S : DS) (rs : Nat → List (List UInt8)) (v : Nat → Value) (i : Nat) : List Atm :=
  Disk p S :: Row (v i) 9 1 (rs i).length ((rs i).map sv) :: apartQ A c qs g3 x p gk rs v i
theorem apart_turn {A : Nat → Option Addr} {c : Nat → Nat} {qs : Nat → List (List UInt8)} {g3 x p gk : Nat} {S : DS} {rs : Nat → List (List UInt8)} {v : Nat → Value} {X : World} : ∀ {i : Nat}, i < 2 → St W0 (apartL A c qs g3 x p gk S rs v 0) X → St W0 (apartL A c qs g3 x p gk S rs v i) X
  | 0, _, h => h
  | 1, _, h => h.at3.at2
theorem apart_back {A : Nat → Option Addr} {c : Nat → Nat} {qs : Nat → List (List UInt8)} {g3 x p gk : Nat} {S : DS} {rs : Nat → List (List UInt8)} {v : Nat → Value} {X : World} : ∀ {i : Nat}, i < 2 → St W0 (apartL A c qs g3 x p gk S rs v i) X → St W0 (apartL A c qs g3 x p gk S rs v 0) X
  | 0, _, h => h
  | 1, _, h => h.at3.at2
theorem zeroKept (W : World) : (zeroValue 34).run Tryd.prog W = .ok (.agg #[.slice none 0 0, .slice none 0 0]) W := by kernel_rfl
theorem size34 : (Tryd.prog.info? 34).map (·.size) = some 2 := by kernel_rfl
theorem apart_set {v : Nat → Value} {i : Nat} (hi : i < 2) (x : Value) : (#[v 0, v 1] : Array Value).setIfInBounds i x = #[upd v i x 0, upd v i x 1] := by
  match i, hi with
  | 0, _ => rfl
  | 1, _ => rfl
theorem pair_cell {X : World} {g i t : Nat} {f : Nat → Value} (hi : i < 2) (h : X.heap[g]? = some (.cells #[f 0, f 1] t (0, 0))) : X.cell? ⟨g, i, none⟩ = some (f i) := by
  match i, hi with
  | 0, _ => exact (cell_of_row X g 0 _ _ _ h).trans rfl
  | 1, _ => exact (cell_of_row X g 1 _ _ _ h).trans rfl
theorem apart_more {A : Nat → Option Addr} {c : Nat → Nat} {qs : Nat → List (List UInt8)} {g3 x p gk j : Nat} {T : DS} {rs : Nat → List (List UInt8)} {J : Nat → Jn} {v : Nat → Value} {X : World} {i : Nat} (hi : i < 2) {v' : Value} {r : List UInt8} {K : Jn}
    (h : St W0 (Disk p T :: Blk j (jourV p K) 58 :: Row v' 9 1 ((rs i).length + 1) ((rs i).map sv ++ [sv r]) :: Row (v (1 - i)) 9 1 (rs (1 - i)).length ((rs (1 - i)).map sv) :: Blk gk ((#[v 0, v 1] : Array Value).setIfInBounds i v') 34 :: Blk x (extV p ⟨4, 3, 12⟩) 53 :: [Blk g3 #[.slice (A 0) (qs 0).length (c 0), .slice (A 1) (qs 1).length (c 1)] 23]) X) :
    St W0 (Disk p T :: Blk j (jourV p (upd J i K i)) 58 :: Row (upd v i v' i) 9 1 (upd rs i (rs i ++ [r]) i).length ((upd rs i (rs i ++ [r]) i).map sv) :: apartQ A c qs g3 x p gk (upd rs i (rs i ++ [r])) (upd v i v') i) X := by
  rw [apart_set hi] at h
  have hne : 1 - i ≠ i := by omega
  unfold apartQ
  rw [upd_at, upd_at, upd_at, upd_ne _ _ hne, upd_ne _ _ hne, List.length_append, List.map_append]
  exact h
set_option maxRecDepth 20000 in
set_option maxHeartbeats 8000000 in
theorem apart_walk {A : Nat → Option Addr} {c : Nat → Nat} {qs : Nat → List (List UInt8)} {z : Bool} {K : Option Addr} {kc : Nat} {keep : List Bool} (w : World) (hG : Glob w) (hq : ∀ i, i < 2 → RecsIn w (A i) (qs i)) (hkl : keep.length ≤ maxLen) (hk : KeepIn w K keep) :
    Calls Tryd.prog 3 #[.agg #[.slice (A 0) (qs 0).length (c 0), .slice (A 1) (qs 1).length (c 1)], .bool z, .slice K keep.length kc] w fun x w' => x = .returned (.bool true) ∧ Below w.heap.size w w' := by
  have HG := hid hG
  have HQ := hid hq
  have HK := hid (And.intro hkl hk)
  have HN := hid (fun X (M : List Atm) (hX : St w M X) => show Calls Tryd.prog 4 #[.int .i64 40] X (fun r w' => ∃ p, r = .returned (.tuple #[.pointer (some ⟨p, 0, none⟩), .int .i64 0]) ∧ St w (Disk p (DS.new 40) :: M) w') from new_st (n := 40) hX (by decide) (by decide))
  have HX := hid (fun X (p : Nat) (M : List Atm) (hX : St w (Disk p (DS.new 40) :: M) X) => xnew_ok (e := ⟨4, 3, 12⟩) hX (by constructor <;> decide) (f := 4) (c := 3) (s := 12) rfl rfl rfl)
  have HS := hid (fun X (M : List Atm) (hX : St w M X) => stands_st hX HG.out)
  obtain ⟨i9, hi, hiz, his, hib⟩ := info_parts info9
  have HI := hid (And.intro hi (And.intro hiz (And.intro his hib)))
  clear hG hq hkl hk hi hiz his hib
  go_enter Tryd.func3, Tryd.ntmps3
  go_upto_region 6 with (first | (refine wpList_box rfl 23 _ rfl (.agg #[.slice (A 0) (qs 0).length (c 0), .slice (A 1) (qs 1).length (c 1)]) rfl ?_; intro g3 W1 h1 hl1 hg1 hW1; have H1 := hid ((St.start w).newBlk hW1 hg1 h1); clear h1 hl1 hg1 hW1) | (go_at_call 4; (with_reducible refine (HN.out _ _ H1.out).mono ?_); rintro r W2 ⟨p, rfl, h2⟩; have H2 := hid h2; clear h2) | (go_at_call 5; (with_reducible refine (HX.out _ _ _ H2.out).mono ?_); rintro r W3 ⟨x, rfl, h3⟩; have H3 := hid h3; clear h3) | (go_at_call 6; (with_reducible refine (HS.out _ _ H3.out).mono ?_); rintro r W4 ⟨rfl, h4⟩; have H4 := hid h4; clear h4) | (refine wpList_alloc 34 rfl rfl (.agg #[.slice none 0 0, .slice none 0 0]) zeroKept ?_; intro gk W5 h1 hl1 hg1 hW1; have H5 := hid (H4.out.newBlk hW1 hg1 h1); clear h1 hl1 hg1 hW1))
  have H6 := hid (show St w (apartL A c qs g3 x p gk (DS.new 40) (fun _ => []) (fun _ => .slice none 0 0) 0) W5 from (St.rowNil rfl 9 1 (St.rowNil rfl 9 1 H5.out)).at5)
  go_wp2_with fail
  go_loopw [12, 13, 14, 15, 16, 17, 18, 19, 20] (fun iv _ _ _ _ _ _ _ _ X => ∃ (i N : Nat) (S : DS) (rs : Nat → List (List UInt8)) (J : Nat → Jn) (v : Nat → Value), i ≤ 2 ∧ iv = .int .i64 i ∧ N ≤ 2800 * i ∧ Hid (Two S N rs J) ∧ Hid (∀ k, i ≤ k → rs k = []) ∧ Hid (∀ k, (rs k).length ≤ 4) ∧ Hid (St w (apartL A c qs g3 x p gk S rs v 0) X)) (fun iv _ _ _ _ _ _ _ _ _ => 2 - (intOf iv).toNat)
  case atStart => exact ⟨0, 0, DS.new 40, fun _ => [], seatJ, fun _ => .slice none 0 0, Nat.zero_le _, rfl, Nat.le_refl _, hid Two.new, hid (fun _ _ => rfl), hid (fun _ => Nat.zero_le _), H6⟩
  case round =>
    clear H6
    obtain ⟨i, N, S, rs, J, v, hi, rfl, hN, HT, HE, HL, HS⟩ := hrel
    by_cases hlt : i < 2
    · have e1 : (i : Int) < 2 := by omega
      have e0 : (0 : Int) ≤ (i : Int) := by omega
      have HSi := hid (apart_turn hlt HS.out)
      have hri : rs i = [] := HE.out i (Nat.le_refl _)
      have HRI := hid hri
      obtain ⟨fi, hfi⟩ : ∃ fi : Nat, fi = 4 + i * 12 := ⟨_, rfl⟩
      have HA := hid (show ∀ X M, St w (Blk x (extV p ⟨4, 3, 12⟩) 53 :: M) X → Calls Tryd.prog 7 #[.pointer (some ⟨x, 0, none⟩), .int .i64 i] X fun r w' => r = .returned (.tuple #[.int .i64 fi, .int .i64 12, .int .i64 0]) ∧ Below X.heap.size X w' from fun X M hX => by
        rw [hfi]; exact area_in (e := ⟨4, 3, 12⟩) (n := 40) hX.blk (by constructor <;> decide) (by show i < 3; omega))
      have HO := hid (show ∀ X M, St w (Disk p S :: M) X → Calls Tryd.prog 8 #[.pointer (some ⟨p, 0, none⟩), .int .i64 fi, .int .i64 12] X fun r w' => ∃ j A2 c2, r = .returned (.tuple #[.pointer (some ⟨j, 0, none⟩), .slice A2 0 c2, .int .i64 0]) ∧ St w (Disk p S :: Blk j (jourV p (J i)) 58 :: M) w' from fun X M hX => by
        have hq := HT.out.read hlt
        have hl := HT.out.len
        rw [hri] at hq
        rw [hfi]
        refine (open_st (size := 12) hX HT.out.flat.ok HT.out.flat.off (by decide) (by rw [hl]; omega) hq).mono ?_
        rintro r w' ⟨j, A2, c2, xs, hr, hs⟩
        exact ⟨j, A2, c2, hr, hs.drop.drop⟩)
      obtain ⟨Ai, hAi⟩ : ∃ a, a = A i := ⟨_, rfl⟩
      obtain ⟨qi, hqi⟩ : ∃ a, a = qs i := ⟨_, rfl⟩
      obtain ⟨ci, hci⟩ : ∃ a, a = c i := ⟨_, rfl⟩
      have HQi := hid (show RecsIn w Ai qi by rw [hAi, hqi]; exact HQ.out i hlt)
      have HC := hid (show ∀ X M, St w (Blk g3 #[.slice (A 0) (qs 0).length (c 0), .slice (A 1) (qs 1).length (c 1)] 23 :: M) X → X.cell? ⟨g3, i, none⟩ = some (.slice Ai qi.length ci) from fun X M hX => by
        rw [hAi, hqi, hci]; exact pair_cell (f := fun i => .slice (A i) (qs i).length (c i)) hlt hX.blk)
      clear hfi hri HS hAi hqi hci
      go_wp2_with (first | (go_at_call 7; (with_reducible refine (HA.out _ _ HSi.out.at5).mono ?_); rintro r w1 ⟨rfl, hb1⟩; have H1 := hid (HSi.out.turn hb1); clear hb1) | (go_at_call 8; (with_reducible refine (HO.out _ _ H1.out).mono ?_); rintro r w2 ⟨j, A2, c2, rfl, hs⟩; have H2 := hid hs; clear hs))
      go_loopw [19, 20] (fun kv _ X => ∃ (k N2 : Nat) (S2 : DS) (rs2 : Nat → List (List UInt8)) (J2 : Nat → Jn) (v2 : Nat → Value), k ≤ 4 ∧ kv = .int .i64 k ∧ N2 ≤ 2800 * i + 700 * k ∧ Hid (Two S2 N2 rs2 J2) ∧ Hid (∀ m, i < m → rs2 m = []) ∧ Hid ((rs2 i).length ≤ k) ∧ Hid (∀ m, (rs2 m).length ≤ 4) ∧ Hid (St w (Disk p S2 :: Blk j (jourV p (J2 i)) 58 :: Row (v2 i) 9 1 (rs2 i).length ((rs2 i).map sv) :: apartQ A c qs g3 x p gk rs2 v2 i) X)) (fun kv _ _ => 4 - (intOf kv).toNat)
      case atStart => exact ⟨0, N, S, rs, J, v, Nat.zero_le _, rfl, by omega, HT, hid (fun m hm => HE.out m (by omega)), hid (by rw [HRI.out]; exact Nat.le_refl 0), HL, H2⟩
      case round =>
        clear H1 H2 HSi HA HO HT HE HL HRI
        obtain ⟨k, N2, S2, rs2, J2, v2, hk, rfl, hN2, HT2, HE2, HLi, HL2, HS2⟩ := hrel
        have k0 : (0 : Int) ≤ (k : Int) := by omega
        by_cases hk1 : k < qi.length
        · have f1 : (k : Int) < (qi.length : Int) := by omega
          by_cases hk2 : k < 4
          · have f2 : (k : Int) < 4 := by omega
            obtain ⟨q, hq⟩ : ∃ q, qi[k]? = some q := ⟨_, List.getElem?_eq_getElem hk1⟩
            obtain ⟨g, o, Bk, ck, rfl, hc, h1, h2, h3⟩ := HQi.out k q hq
            have HF := hid (show ∀ X, St w (Disk p S2 :: Blk j (jourV p (J2 i)) 58 :: Row (v2 i) 9 1 (rs2 i).length ((rs2 i).map sv) :: apartQ A c qs g3 x p gk rs2 v2 i) X → X.cell? ⟨g3, i, none⟩ = some (.slice (some ⟨g, o, none⟩) qi.length ci) ∧ X.cell? ⟨g, o + k, none⟩ = some (.slice Bk q.length ck) from fun X hX => ⟨HC.out _ _ hX.at7, (hX.below.cell (p := ⟨g, o + k, none⟩) (cell_lt hc)).trans hc⟩)
            have x3 := (HF.out _ HS2.out).1
            obtain ⟨rt, hrt⟩ : ∃ rt, rt = q.take 200 := ⟨_, rfl⟩
            have HBT := hid (show BytesIn w Bk rt by rw [hrt]; exact h3.take 200)
            have hrl : rt.length = min q.length 200 := by rw [hrt, List.length_take, Nat.min_comm]
            have EM : (if (200 : Int) < (q.length : Int) then (200 : Int) else (q.length : Int)) = (rt.length : Int) := by split <;> omega
            have hrs : rt.length ≤ 200 := by omega
            have hrc : (rt.length : Int) ≤ (ck : Int) := by omega
            have hrc2 : rt.length ≤ ck := by omega
            clear hq hc h3 hrt hrl
            go_wp2_with fail
            clear x3
            refine wp_region_ord [] [(0, 1), (1, 1), (2, 1), (3, 1), (4, 1), (5, 1), (6, 1), (7, 1), (8, 1), (9, 1), (10, 1), (11, 1), (12, 1), (13, 1), (14, 1), (15, 1)] (fun X => St w (Disk p S2 :: Blk j (jourV p (J2 i)) 58 :: Row (v2 i) 9 1 (rs2 i).length ((rs2 i).map sv) :: apartQ A c qs g3 x p gk rs2 v2 i) X) (by kernel_rfl) (by kernel_rfl) (fun d _ c _ _ h => by cases d <;> exact h) (HS2.out.turn (Below.drew (Below.refl _ _))) (fun X hXe hX => ?_)
            clear hXe
            repeat (apply wpOrd_class; ((· first | (rw [List.getElem?_toArray, List.getElem?_cons_zero]; done) | (simp only [List.getElem?_toArray, List.getElem?_cons_succ, List.getElem?_cons_zero]; exact rfl))); (· exact rfl); intro K hK; apply Exists.intro; refine And.intro (fun X' hX' => ?_) ?_; (· obtain ⟨hq1, hq2⟩ := HF.out _ hX'; clear hX'; go_simp; (try go_bits); first | done | exact rfl | exact ⟨rfl, rfl⟩); go_simp; refine hK _ _ ?_; clear hK K)
            refine wpOrd_done ?_
            have H3 := hid hX
            clear hX HS2 EM HF
            obtain ⟨j1, j2, j3⟩ := HT2.out.jn hlt
            have HAP := hid (show ∀ X M, St w (Disk p S2 :: Blk j (jourV p (J2 i)) 58 :: M) X → Calls Tryd.prog 9 #[.pointer (some ⟨j, 0, none⟩), .slice Bk rt.length ck] X fun r w' => r = .returned (.int .i64 (S2.append (J2 i) rt).2) ∧ St w (Disk p (S2.append (J2 i) rt).1 :: Blk j (jourV p ((J2 i).after (S2.append (J2 i) rt).2 rt.length)) 58 :: M) w' from fun X M hX => by
              have hl := HT2.out.len
              have hqq := HT2.out.at_ i hlt
              obtain ⟨_, _, y3, y4, _⟩ := hqq.laid.facts hqq.used
              have y3' : (J2 i).n = 0 + (rs2 i).length := y3
              have y4' : 0 + (rs2 i).length ≤ (J2 i).used := y4
              exact append_st hX HT2.out.flat.ok ⟨by rw [hl]; omega, by omega, by omega, by rw [hl]; decide⟩ (by omega) (fun Y hY => HBT.out.below hY.below) (by omega) hrc2 h2)
            rcases HT2.out.append hlt (rec := rt) (by omega) with ⟨he, hT3⟩ | ⟨he, hT3⟩
            · obtain ⟨T, hTT⟩ : ∃ T, T = (S2.append (J2 i) rt).1 := ⟨_, rfl⟩
              rw [he, ← hTT] at HAP
              rw [← hTT] at hT3
              have HT3 := hid hT3
              have HAF := hid (show (J2 i).after 0 rt.length = (J2 i).more rt.length from if_pos rfl)
              rw [HAF.out] at HAP
              clear he hT3 hTT HAF
              go_wp2_with (go_at_call 9; (with_reducible refine (HAP.out _ _ H3.out).mono ?_); rintro r w3 ⟨rfl, hs3⟩; have H4 := hid hs3; clear hs3)
              clear H3 HAP
              obtain ⟨vi, hvi⟩ : ∃ vi, vi = v2 i := ⟨_, rfl⟩
              have H5 := hid (show St w (Row vi 9 1 (rs2 i).length ((rs2 i).map sv) :: Disk p T :: Blk j (jourV p ((J2 i).more rt.length)) 58 :: apartQ A c qs g3 x p gk rs2 v2 i) w3 by rw [hvi]; exact H4.out.at3)
              obtain ⟨Bv, dv, rfl, _⟩ := row_slice H5.out
              have hl4 := HL2.out i
              obtain ⟨nr, hnr⟩ : ∃ nr, nr = (rs2 i).length := ⟨_, rfl⟩
              rw [← hnr] at H5 hvi hl4
              have HNR := hid hnr
              clear hnr
              have HF := hid (show ∀ X, St w (Disk p T :: Blk j (jourV p ((J2 i).more rt.length)) 58 :: apartQ A c qs g3 x p gk rs2 v2 i) X → X.cell? ⟨gk, i, none⟩ = some (.slice Bv nr dv) ∧ (convert 40 9 (.slice Bk rt.length ck)).run Tryd.prog X = .ok (sv rt) X from fun X hX => ⟨by rw [hvi]; exact pair_cell hlt hX.at4.blk, conv_bytes (HBT.out.below hX.below) rt.length ck rfl⟩)
              clear H4 hvi
              refine wp_region_ord [9] [(0, 1), (1, 1), (2, 1), (3, 1), (4, 1), (5, 1), (6, 2), (7, 2), (8, 1), (9, 2)] (fun X => St w (Disk p T :: Blk j (jourV p ((J2 i).more rt.length)) 58 :: apartQ A c qs g3 x p gk rs2 v2 i) X) (by kernel_rfl) (by kernel_rfl) (fun d _ c _ _ h => by cases d <;> exact h) (H5.out.drop.turn (Below.drew (Below.refl _ _))) (fun X hXe _ => ?_)
              have HX := hid (show St w (Row (.slice Bv nr dv) 9 1 nr ((rs2 i).map sv) :: Disk p T :: Blk j (jourV p ((J2 i).more rt.length)) 58 :: apartQ A c qs g3 x p gk rs2 v2 i) X from by rw [hXe]; exact H5.out.turn (Below.drew (Below.refl _ _)))
              clear hXe H5
              repeat (apply wpOrd_class; ((· first | (rw [List.getElem?_toArray, List.getElem?_cons_zero]; done) | (simp only [List.getElem?_toArray, List.getElem?_cons_succ, List.getElem?_cons_zero]; exact rfl))); (· exact rfl); intro K hK; apply Exists.intro; refine And.intro (fun X' hX' => ?_) ?_; (· obtain ⟨hq1, hq2⟩ := HF.out _ hX'; clear hX'; go_simp; (try go_bits); first | done | exact rfl | exact ⟨rfl, rfl⟩); go_simp; refine hK _ _ ?_; clear hK K)
              (apply wpOrd_comes; ((· first | (rw [List.getElem?_toArray, List.getElem?_cons_zero]; done) | (simp only [List.getElem?_toArray, List.getElem?_cons_succ, List.getElem?_cons_zero]; exact rfl))); intro N hN)
              go_wp2_with (refine wpList_buildSlice1 _ rfl (sv rt) (by simp [Act.eval]) rfl Tryd.underlying33 zero9 size9 (by decide) (by decide) rfl ?_; intro gn X4 hS hgs hges hX1b)
              have H6 := hid (HX.out.turn hX1b)
              have HNW := hid (news_box hS [sv rt] rfl)
              clear hS hgs hges hX1b HX
              refine hN _ _ (fun _ => H6.out.drop) ?_
              clear hN N
              (apply wpOrd_comes; ((· first | (rw [List.getElem?_toArray, List.getElem?_cons_zero]; done) | (simp only [List.getElem?_toArray, List.getElem?_cons_succ, List.getElem?_cons_zero]; exact rfl))); intro N hN)
              go_wp2_with (refine wpList_append_at _ _ _ rfl (.slice Bv nr dv) rfl ⟨gn, 0, none⟩ 1 1 rfl rfl 9 i9 (.string ByteArray.empty) 1 16 Tryd.underlying33 HI.out.1 HI.out.2.1 HI.out.2.2.1 HI.out.2.2.2 rfl (by decide) nr ((rs2 i).map sv) H6.out.row [sv rt] rfl HNW.out (by simp [sv, Value.oneCell']) (by unfold maxLen; omega) (by omega) ?_; intro v' X5 hO2 hT2 hfr)
              have H7 := hid (H6.out.grow hO2 hT2 hfr)
              clear hO2 hT2 hfr H6
              obtain ⟨B1, d1, rfl, _⟩ := row_slice H7.out
              refine hN _ _ (fun _ => H7.out.drop) ?_
              clear hN N
              repeat (apply wpOrd_class; ((· first | (rw [List.getElem?_toArray, List.getElem?_cons_zero]; done) | (simp only [List.getElem?_toArray, List.getElem?_cons_succ, List.getElem?_cons_zero]; exact rfl))); (· exact rfl); intro K hK; apply Exists.intro; refine And.intro (fun X' hX' => ?_) ?_; (· obtain ⟨hq1, hq2⟩ := HF.out _ hX'; clear hX'; go_simp; (try go_bits); first | done | exact rfl | exact ⟨rfl, rfl⟩); go_simp; refine hK _ _ ?_; clear hK K)
              have fz := frozen_of_row X5 gk i _ _ H7.out.at5.blk
              have fc := (HF.out X5 H7.out.drop).1
              (apply wpOrd_comes; ((· first | (rw [List.getElem?_toArray, List.getElem?_cons_zero]; done) | (simp only [List.getElem?_toArray, List.getElem?_cons_succ, List.getElem?_cons_zero]; exact rfl))); intro N hN)
              go_wp2_with fail
              have H8 := hid (H7.out.at5.setCell i (.slice B1 (nr + 1) d1))
              clear fz fc H7
              refine hN _ _ (fun h => by cases h) ?_
              clear hN N
              refine wpOrd_done ?_
              obtain ⟨Y, hY⟩ : ∃ Y, Y = X5.setCell ⟨gk, i, none⟩ (.slice B1 (nr + 1) d1) := ⟨_, rfl⟩
              rw [← hY] at H8
              simp only [← hY]
              clear hY HF
              rw [HNR.out] at H8
              go_wp2_with fail
              go_roundw
              case rel => exact ⟨k + 1, N2 + 700, T, upd rs2 i (rs2 i ++ [rt]), upd J2 i ((J2 i).more rt.length), upd v2 i (.slice B1 ((rs2 i).length + 1) d1), by omega, by go_num, by omega, HT3, hid (fun m hm => by rw [upd_ne _ _ (by omega)]; exact HE2.out m hm), hid (by rw [upd_at, List.length_append]; have := HLi.out; simp; omega), hid (fun m => by
                by_cases hm : m = i
                · subst hm; rw [upd_at, List.length_append]; have := HLi.out; simp; omega
                · rw [upd_ne _ _ hm]; exact HL2.out m), hid (apart_more hlt (H8.out.back5.back3))⟩
              case measure => simp [intOf]; omega
            · have hne : ((S2.append (J2 i) rt).2 == 0) = false := by simpa using he
              rw [hT3, show (J2 i).after (S2.append (J2 i) rt).2 rt.length = J2 i from if_neg he] at HAP
              obtain ⟨e9, he9⟩ : ∃ e9, e9 = (S2.append (J2 i) rt).2 := ⟨_, rfl⟩
              rw [← he9] at HAP hne
              clear he hT3 he9
              go_wp2_with (go_at_call 9; (with_reducible refine (HAP.out _ _ H3.out).mono ?_); rintro r w3 ⟨rfl, hs3⟩; have H4 := hid hs3; clear hs3)
              go_roundw
              case rel => exact ⟨k + 1, N2, S2, rs2, J2, v2, by omega, by go_num, by omega, HT2, HE2, hid (by have := HLi.out; omega), HL2, H4⟩
              case measure => simp [intOf]; omega
          · have f2 : ¬ (k : Int) < 4 := by omega
            have x3 := HC.out _ _ HS2.out.at7
            go_wp2_with fail
            clear x3
            go_roundw
            case rel => exact ⟨i + 1, N2, S2, rs2, J2, v2, by omega, by go_num, by omega, HT2, hid (fun m hm => HE2.out m (by omega)), HL2, hid (apart_back hlt HS2.out.drop2)⟩
            case measure => simp [intOf]; omega
        · have f1 : ¬ (k : Int) < (qi.length : Int) := by omega
          have x3 := HC.out _ _ HS2.out.at7
          go_wp2_with fail
          clear x3
          go_roundw
          case rel => exact ⟨i + 1, N2, S2, rs2, J2, v2, by omega, by go_num, by omega, HT2, hid (fun m hm => HE2.out m (by omega)), HL2, hid (apart_back hlt HS2.out.drop2)⟩
          case measure => simp [intOf]; omega
    · have e1 : ¬ (i : Int) < 2 := by omega
      obtain rfl : i = 2 := by omega
      go_upto_if 120 with fail
      go_cut [] (fun wx => ∃ (S : DS) (N : Nat) (rs : Nat → List (List UInt8)) (J : Nat → Jn) (v : Nat → Value), N ≤ 6000 ∧ Hid (Two S N rs J) ∧ Hid (∀ k, (rs k).length ≤ 4) ∧ Hid (St w (apartL A c qs g3 x p gk S rs v 0) wx))
      case first =>
        cases z
        · go_wp2_with fail
          go_meet
          case rel => exact ⟨S, N, rs, J, v, by omega, HT, HL, HS⟩
        · have hz := HT.out.zero
          obtain ⟨T, hTT⟩ : ∃ T, T = (S.zeros 12 4).1 := ⟨_, rfl⟩
          have HT3 := hid hz.2
          have HZE := hid (show ∀ X M, St w (Disk p S :: Blk x (extV p ⟨4, 3, 12⟩) 53 :: M) X → Calls Tryd.prog 10 #[.pointer (some ⟨x, 0, none⟩), .int .i64 0] X fun r w' => r = .returned (.int .i64 0) ∧ St w (Disk p T :: Blk x (extV p ⟨4, 3, 12⟩) 53 :: M) w' from fun X M hX => by
            have h := zero_st (i := 0) hX HT.out.flat.ok (by rw [HT.out.len]; constructor <;> decide) (by show N + 12 ≤ 1000000; omega) (by decide)
            have e4 : S.zeros (Ex.size ⟨4, 3, 12⟩) (Ex.first ⟨4, 3, 12⟩ + 0 * Ex.size ⟨4, 3, 12⟩) = S.zeros 12 4 := rfl
            rw [e4, hz.1, ← hTT] at h
            exact h)
          rw [← hTT] at HT3
          clear hz hTT
          go_upto_region 22 with (go_at_call 10; (with_reducible refine (HZE.out _ _ HS.out.at5.at2).mono ?_); rintro r w1 ⟨rfl, hs⟩; have H1 := hid hs; clear hs; have fz := frozen_of_row w1 gk 0 _ _ H1.out.at5.blk; have fc := pair_cell (i := 0) (by decide) H1.out.at5.blk)
          go_wp2_with fail
          have H2 := hid (H1.out.at5.setCell 0 (.slice none 0 0))
          clear fz fc H1
          go_meet
          case rel => exact ⟨T, N + 12, upd rs 0 [], upd J 0 (seatJ 0), upd v 0 (.slice none 0 0), by omega, HT3, hid (fun m => by
            by_cases hm : m = 0
            · subst hm; rw [upd_at]; exact Nat.zero_le _
            · rw [upd_ne _ _ hm]; exact HL.out m), hid (((H2.out.at4.drop.nilRow 9 1).at3.at5).back3)⟩
      case rest =>
        clear HT HE HL HS
        obtain ⟨S0, N, rs, J, v, hN2, HT0, HL, HS⟩ := hcut
        obtain ⟨S, hS⟩ : ∃ S, S = S0.crash keep := ⟨_, rfl⟩
        have HT := hid (show Two S N rs J by rw [hS]; exact HT0.out.crash keep)
        have HCR := hid (show ∀ X M, St w (Disk p S0 :: M) X → Calls Tryd.prog 11 #[.pointer (some ⟨p, 0, none⟩), .slice K keep.length kc] X fun r w' => r = .returned (.tuple #[]) ∧ St w (Disk p S :: M) w' from fun X M hX => by
          rw [hS]; exact crash_st hX HT0.out.flat.ok (by omega) HK.out.1 HK.out.2)
        clear hS HT0
        go_wp2_with (go_at_call 11; (with_reducible refine (HCR.out _ _ HS.out).mono ?_); rintro r w1 ⟨rfl, hs⟩; have H1 := hid hs; clear hs)
        clear HS HCR
        go_loopw [21, 22, 23, 24, 25, 26, 27, 28] (fun iv _ _ _ _ _ _ _ X => ∃ i : Nat, i ≤ 2 ∧ iv = .int .i64 i ∧ Hid (St w (apartL A c qs g3 x p gk S rs v 0) X)) (fun iv _ _ _ _ _ _ _ _ => 2 - (intOf iv).toNat)
        case atStart => exact ⟨0, Nat.zero_le _, rfl, H1⟩
        case round =>
          clear H1
          obtain ⟨i, hi2, rfl, HS⟩ := hrel
          by_cases hlt : i < 2
          · have e1 : (i : Int) < 2 := by omega
            have e0 : (0 : Int) ≤ (i : Int) := by omega
            have HSi := hid (apart_turn hlt HS.out)
            obtain ⟨fi, hfi⟩ : ∃ fi : Nat, fi = 4 + i * 12 := ⟨_, rfl⟩
            have HA := hid (show ∀ X M, St w (Blk x (extV p ⟨4, 3, 12⟩) 53 :: M) X → Calls Tryd.prog 7 #[.pointer (some ⟨x, 0, none⟩), .int .i64 i] X fun r w' => r = .returned (.tuple #[.int .i64 fi, .int .i64 12, .int .i64 0]) ∧ Below X.heap.size X w' from fun X M hX => by
              rw [hfi]; exact area_in (e := ⟨4, 3, 12⟩) (n := 40) hX.blk (by constructor <;> decide) (by show i < 3; omega))
            obtain ⟨ri, hri⟩ : ∃ a, a = rs i := ⟨_, rfl⟩
            have HO := hid (show ∀ X M, St w (Disk p S :: M) X → Calls Tryd.prog 8 #[.pointer (some ⟨p, 0, none⟩), .int .i64 fi, .int .i64 12] X fun r w' => ∃ j A2 c2 xs, r = .returned (.tuple #[.pointer (some ⟨j, 0, none⟩), .slice A2 ri.length c2, .int .i64 0]) ∧ St w (Row (.slice A2 ri.length c2) 40 1 ri.length xs :: Vals xs ri :: Disk p S :: Blk j (jourV p (J i)) 58 :: M) w' from fun X M hX => by
              have hq := HT.out.read hlt
              have hl := HT.out.len
              rw [← hri] at hq
              rw [hfi]
              exact open_st (size := 12) hX HT.out.flat.ok HT.out.flat.off (by decide) (by rw [hl]; omega) hq)
            have hrl := HL.out i
            obtain ⟨Bv, dv, hvi, _⟩ := row_slice HSi.out.at2
            rw [← hri] at hrl hvi
            have HV := hid (show ∀ X M, St w (Blk gk #[v 0, v 1] 34 :: M) X → X.cell? ⟨gk, i, none⟩ = some (.slice Bv ri.length dv) from fun X M hX => by rw [← hvi]; exact pair_cell hlt hX.blk)
            have HRW := hid (show ∀ k r, ri[k]? = some r → ∃ g, Bv = some ⟨g, 0, none⟩ ∧ ∀ X M, St w (Row (v i) 9 1 ri.length (ri.map sv) :: M) X → X.cell? ⟨g, k, none⟩ = some (sv r) from fun k r hk => by
              obtain ⟨g, hg, _⟩ := row_at (x := sv r) HSi.out.at2 (by rw [hvi, hri]) (by rw [List.getElem?_map, ← hri, hk]; rfl)
              refine ⟨g, hg, fun X M hX => ?_⟩
              obtain ⟨g', hg', hc⟩ := row_at (x := sv r) hX hvi (by rw [List.getElem?_map, hk]; rfl)
              rw [hg] at hg'
              cases hg'
              exact hc)
            have HB := hid (show ∀ X, St w (Disk p S :: Row (v i) 9 1 ri.length (ri.map sv) :: apartQ A c qs g3 x p gk rs v i) X → St w (apartL A c qs g3 x p gk S rs v 0) X from fun X hX => apart_back hlt (by rw [hri] at hX; exact hX))
            have H0 := hid (show St w (Disk p S :: Row (v i) 9 1 ri.length (ri.map sv) :: apartQ A c qs g3 x p gk rs v i) wr by rw [hri]; exact HSi.out)
            clear hfi hvi HS HSi hri
            go_wp2_with (first | (go_at_call 7; (with_reducible refine (HA.out _ _ H0.out.at5).mono ?_); rintro r w1 ⟨rfl, hb1⟩; have H1 := hid (H0.out.turn hb1); clear hb1) | (go_at_call 8; (with_reducible refine (HO.out _ _ H1.out).mono ?_); rintro r w2 ⟨j, A2, c2, xs, rfl, hs⟩; have H2 := hid hs; clear hs; have x3 := HV.out _ _ H2.out.at7))
            have h1x : St w (Row (.slice A2 ri.length c2) 40 1 ri.length xs :: Vals xs ri :: Disk p S :: Blk j (jourV p (J i)) 58 :: Row (v i) 9 1 ri.length (ri.map sv) :: apartQ A c qs g3 x p gk rs v i) w2 := H2.out
            clear x3 h1x HA HO H1 H0
            go_loopw [28] (fun kv X => ∃ k : Nat, k ≤ ri.length ∧ kv = .int .i64 k ∧ Hid (St w (Row (.slice A2 ri.length c2) 40 1 ri.length xs :: Vals xs ri :: Disk p S :: Blk j (jourV p (J i)) 58 :: Row (v i) 9 1 ri.length (ri.map sv) :: apartQ A c qs g3 x p gk rs v i) X)) (fun kv _ => ri.length - (intOf kv).toNat)
            case atStart => exact ⟨0, Nat.zero_le _, rfl, H2⟩
            case round =>
              clear H2
              obtain ⟨k, hk, rfl, HS⟩ := hrel
              have k0 : (0 : Int) ≤ (k : Int) := by omega
              by_cases hk1 : k < ri.length
              · have f1 : (k : Int) < (ri.length : Int) := by omega
                obtain ⟨r, hr⟩ : ∃ r, ri[k]? = some r := ⟨_, List.getElem?_eq_getElem hk1⟩
                obtain ⟨g, o, Bk, ck, rfl, h1, h2, h3⟩ := recsAll_row HS.out k r hr
                obtain ⟨gv, rfl, h4⟩ := HRW.out k r hr
                have HF := hid (show ∀ X, St w (Row (.slice (some ⟨g, o, none⟩) ri.length c2) 40 1 ri.length xs :: Vals xs ri :: Disk p S :: Blk j (jourV p (J i)) 58 :: Row (v i) 9 1 ri.length (ri.map sv) :: apartQ A c qs g3 x p gk rs v i) X → X.cell? ⟨g, o + k, none⟩ = some (.slice Bk r.length ck) ∧ (convert 40 9 (.slice Bk r.length ck)).run Tryd.prog X = .ok (sv r) X ∧ X.cell? ⟨gk, i, none⟩ = some (.slice (some ⟨gv, 0, none⟩) ri.length dv) ∧ X.cell? ⟨gv, k, none⟩ = some (sv r) from fun X hX => ⟨(h3 X ⟨_, hX⟩).1, conv_bytes (h3 X ⟨_, hX⟩).2 r.length ck rfl, HV.out _ _ hX.at7, h4 _ _ hX.at5⟩)
                clear h3 h4 hr
                go_wp2_with fail
                refine wp_region_ord [] [(0, 1), (1, 1), (2, 1), (3, 1), (5, 1), (6, 1), (7, 1), (8, 1), (9, 1), (10, 1), (4, 1), (11, 1)] (fun X => St w (Row (.slice (some ⟨g, o, none⟩) ri.length c2) 40 1 ri.length xs :: Vals xs ri :: Disk p S :: Blk j (jourV p (J i)) 58 :: Row (v i) 9 1 ri.length (ri.map sv) :: apartQ A c qs g3 x p gk rs v i) X) (by kernel_rfl) (by kernel_rfl) (fun d _ c _ _ h => by cases d <;> exact h) (HS.out.turn (Below.drew (Below.refl _ _))) (fun X hXe hX => ?_)
                clear hXe HS
                repeat (apply wpOrd_class; ((· first | (rw [List.getElem?_toArray, List.getElem?_cons_zero]; done) | (simp only [List.getElem?_toArray, List.getElem?_cons_succ, List.getElem?_cons_zero]; exact rfl))); (· exact rfl); intro K hK; apply Exists.intro; refine And.intro (fun X' hX' => ?_) ?_; (· obtain ⟨hq1, hq2, hq3, hq4⟩ := HF.out _ hX'; clear hX'; go_simp; (try go_bits); first | done | exact rfl | exact ⟨rfl, rfl⟩); go_simp; refine hK _ _ ?_; clear hK K)
                refine wpOrd_done ?_
                have H3 := hid hX
                clear hX HF
                go_wp2_with fail
                go_roundw
                case rel => exact ⟨k + 1, by omega, by go_num, H3⟩
                case measure => simp [intOf]; omega
              · have f1 : ¬ (k : Int) < (ri.length : Int) := by omega
                go_wp2_with fail
                go_roundw
                case rel => exact ⟨i + 1, by omega, by go_num, hid (HB.out _ HS.out.drop.drop.drop2)⟩
                case measure => simp [intOf]; omega
          · have e1 : ¬ (i : Int) < 2 := by omega
            have HCL := hid (show ∀ X M, St w (Disk p S :: Blk x (extV p ⟨4, 3, 12⟩) 53 :: M) X → Calls Tryd.prog 12 #[.pointer (some ⟨x, 0, none⟩), .int .i64 2] X fun r w' => r = .returned (.tuple #[.bool true, .int .i64 0]) ∧ St w (Disk p S :: Blk x (extV p ⟨4, 3, 12⟩) 53 :: M) w' from fun X M hX => by
              have h := clear_st (i := 2) hX HT.out.flat.ok (by rw [HT.out.len]; constructor <;> decide) HT.out.flat.off (by decide)
              have e4 : S.clear (Ex.first ⟨4, 3, 12⟩ + 2 * Ex.size ⟨4, 3, 12⟩) (Ex.size ⟨4, 3, 12⟩) = S.clear 28 12 := rfl
              rw [e4, HT.out.clear] at h
              exact h)
            go_wp2_with (go_at_call 12; (with_reducible refine (HCL.out _ _ HS.out.at5.at2).mono ?_); rintro r w2 ⟨rfl, hs⟩; have H2 := hid hs; clear hs)
            go_ret
            exact ⟨rfl, H2.out.below⟩
end
end Go.Proofs.YthmchbdhikakhaaDoor
/- What the listed tables say of memory. -/
namespace Go.Proofs.YthmchbdhikakhaaDoor
open Go.ChangeShapes Go.WideShapes Go.ChangeAt Go.RowKit Go.Cu
theorem gStart : Tryd.prog.globalNamed "custumal/sha2.start" = some 0 := by kernel_rfl
theorem gRounds : Tryd.prog.globalNamed "custumal/sha2.rounds" = some 1 := by kernel_rfl
theorem gtStart : (Tryd.prog.globals[0]?).map (·.type) = some 81 := by kernel_rfl
theorem gtRounds : (Tryd.prog.globals[1]?).map (·.type) = some 86 := by kernel_rfl
/-- An array of words that reads as these. -/
theorem words_cells {H : Type} {enc : TypeId × Value → H} {P : Program} {w : World} {base : Nat} {sp : Nat → Bool} {held : Bool} {fuel t e n : Nat} {cs : List Value} {l : List UInt32} {p : List MemPlace}
    (ht : P.underlying t = some (.array n e)) (he : P.underlying e = some (.int .u32)) (hc : P.cellsOf e = 1) (hct : P.cellsOf t = n) (hl : l.length = n)
    (h : DataW.trod enc P w base sp held fuel t cs = some (.agg (l.map fun x => .lit (.int .u32 x.toNat)), p)) : cs = l.map fun x => Value.int .u32 x.toNat := by
  obtain ⟨xs, m, rfl, hx, hlen, hn, hel⟩ := DataW.trod_array ht h
  rw [hc] at hel
  rw [hct] at hlen
  simp only [Prod.mk.injEq, DataW.agg.injEq] at hx
  apply List.ext_getElem?
  intro i
  by_cases hi : i < n
  · have h1 := hel i hi
    have hxi : i < xs.length := by omega
    rw [List.getElem?_eq_getElem hxi] at h1
    obtain ⟨k, e1, e2, _⟩ := DataW.trod_int he h1
    have hcs : i < cs.length := by omega
    have e3 : (cs.drop (i * 1)).take 1 = [cs[i]] := by
      rw [Nat.mul_one, List.drop_eq_getElem_cons hcs, List.take_succ_cons, List.take_zero]
    rw [e3] at e1
    have hli : i < l.length := by omega
    have e4 : (xs.map (·.1))[i]? = (l.map fun x => DataW.lit (H := H) (.int .u32 x.toNat))[i]? := by rw [hx.1]
    rw [List.getElem?_map, List.getElem?_map, List.getElem?_eq_getElem hxi, List.getElem?_eq_getElem hli, e2] at e4
    simp only [Option.map_some, Option.some.injEq, DataW.lit.injEq, Lit.int.injEq, true_and] at e4
    rw [List.getElem?_map, List.getElem?_eq_getElem hcs, List.getElem?_eq_getElem hli]
    simp only [List.cons.injEq, and_true] at e1
    rw [e1, e4]
    rfl
  · rw [List.getElem?_eq_none (by omega), List.getElem?_eq_none (by simp; omega)]
set_option maxRecDepth 20000 in
theorem start_datum : (Rows.laid_custumal_sha2_start : DataW Unit) = .agg (startL.map fun x => .lit (.int .u32 x.toNat)) := by rfl
set_option maxRecDepth 20000 in
theorem rounds_datum : (Rows.laid_custumal_sha2_rounds : DataW Unit) = .agg (roundsL.map fun x => .lit (.int .u32 x.toNat)) := by rfl
theorem var_block {P : Program} {W : World} {name : String} {cs : Array Value} {g : Nat} (hg : P.globalNamed name = some g) (h : W.var? P name = some cs) : ∃ t f, W.heap[g]? = some (.cells cs t f) := by
  unfold World.var? at h
  rw [hg] at h
  simp only [Option.bind_some] at h
  split at h
  · rename_i cs' t f hh
    cases h
    exact ⟨t, f, hh⟩
  · cases h
/-- The tables lie where the program looks for them. -/
theorem glob_of_laid {W : World} (h : laidMetH Tryd.prog [("custumal/sha2.start", Rows.laid_custumal_sha2_start), ("custumal/sha2.rounds", Rows.laid_custumal_sha2_rounds)] W) : Glob W := by
  rw [MakeChecks.laidMetH_plain _ _ _ (by kernel_rfl)] at h
  obtain ⟨ps, ⟨g0, t0, cs0, f0, p0, q0, hg0, ht0, hv0, hd0, ⟨g1, t1, cs1, f1, p1, q1, hg1, ht1, hv1, hd1, _, _⟩, _⟩, _, _⟩ := h
  obtain rfl := Option.some.inj (gStart.symm.trans hg0)
  obtain rfl := Option.some.inj (gRounds.symm.trans hg1)
  obtain rfl := Option.some.inj (gtStart.symm.trans ht0)
  obtain rfl := Option.some.inj (gtRounds.symm.trans ht1)
  have hd0' := hd0
  have hd1' := hd1
  rw [start_datum] at hd0'
  rw [rounds_datum] at hd1'
  have c0 := words_cells Tryd.underlying81 Tryd.underlying80 (by kernel_rfl) (by kernel_rfl) startL_len hd0'
  have c1 := words_cells Tryd.underlying86 Tryd.underlying80 (by kernel_rfl) (by kernel_rfl) roundsL_len hd1'
  obtain ⟨a0, b0, h0⟩ := var_block gStart hv0
  obtain ⟨a1, b1, h1⟩ := var_block gRounds hv1
  refine ⟨a0, b0, a1, b1, ?_, ?_⟩
  · rw [h0]
    congr 2
    obtain ⟨l⟩ := cs0
    exact congrArg List.toArray c0
  · rw [h1]
    congr 2
    obtain ⟨l⟩ := cs1
    exact congrArg List.toArray c1
end Go.Proofs.YthmchbdhikakhaaDoor
