/- The sum of 64 bytes: that there is one. -/
import Derived.Test.YtnakbdgoaepehaaDoorSha5Zeros
namespace Go.Cu
open Go Go.RowKit
theorem run_index_w64 {P : Program} {t e : TypeId} {n : Nat} (ht : P.underlying t = some (.array n e)) (hu : P.underlying e = some (.int .u64)) (hz : (P.info? e).map (·.size) = some 1)
    (l : List UInt64) (hl : l.length = n) (i : Nat) (h : i < n) (w : World) : (Instr.index t (.agg (w64 l)) (.int .i64 i)).run P w = .ok (.int .u64 ((l.getD i 0).toNat : Int)) w := by
  have hin : ¬ (n ≤ i) := by omega
  have hg := w64_get l (i := i) (by omega)
  simp [Instr.index, asIntOf, run_underlying ht, hin, run_sizeOf hz, part, isAgg, run_underlying hu, hg]
theorem u8_ex (z : Int) : ∃ b : UInt8, z % 256 = (b.toNat : Int) := by
  refine ⟨UInt8.ofNat (z % 256).toNat, ?_⟩
  rw [UInt8.toNat_ofNat']
  omega
end Go.Cu
namespace Go.Proofs.YtnakbdgoaepehaaDoor
open Go.RowKit Go.Cu
set_option maxRecDepth 20000 in
theorem zero64b (W : World) : (zeroValue 55).run Tryd.prog W = .ok (.agg (bv (List.replicate 64 0))) W := by kernel_rfl
theorem size64b : (Tryd.prog.info? 55).map (·.size) = some 64 := by kernel_rfl
theorem sizeU64 : (Tryd.prog.info? 65).map (·.size) = some 1 := by kernel_rfl
@[go_sem ↓] theorem ldktSUM5 (a : Act) (dst : Option Tmp) (x : Operand) (ty : TypeId) (pos : String) (after : Array Edge) (guard : Option (Nat × Bool)) :
      execOp a.eval { dst, op := .load 55 x, type := ty, pos, after, guard } = loadK 55 (a.eval x) := rfl
section
variable {W0 W : World} {L : List Atm}
set_option maxRecDepth 20000 in
set_option maxHeartbeats 16000000 in
theorem sum5_st (h : St W0 L W) (hG : Glob5 W0) {A : Option Addr} {c : Nat} {ps : List (List UInt8)} (hp : PartsIn W0 L A ps) (hps : ps.length ≤ 1000) (hm : ps.flatten.length ≤ 10000) :
    Calls Tryd.prog 20 #[.slice A ps.length c] W fun x w' => (∃ l, l.length = 64 ∧ x = .returned (.agg (bv l))) ∧ St W0 L w' := by
  have HH := hid h
  have HP := hid hp
  have HG := hid (fun X (M : List Atm) (hX : St W0 M X) => hG.below hX.below hG.two)
  have HZ64 := hid (show (bv (List.replicate 64 0)).size = 64 by rw [bv_size, List.length_replicate])
  have HZ8 := hid (show (w64 (List.replicate 8 0)).size = 8 by rw [w64_size, List.length_replicate])
  obtain ⟨i5, hi, hiz, his, hib⟩ := info_parts info5
  have HI := hid (And.intro hi (And.intro hiz (And.intro his hib)))
  clear h hG hp hi hiz his hib
  go_enter Tryd.func20, Tryd.ntmps20
  go_wp2_with (refine wpList_alloc 55 rfl rfl (.agg (bv (List.replicate 64 0))) zero64b ?_; intro go W1 h1 hl1 hg1 hW1; have H1 := hid ((HH.out.newBlk hW1 hg1 h1).nilRow 5 1); clear h1 hl1 hg1 hW1)
  go_loopw [3, 5, 15] (fun v _ k X => ∃ (i n : Nat) (D : Option Addr) (d : Nat), i ≤ ps.length ∧ k = .int .i64 i ∧ v = .slice D n d ∧ n ≤ 10000 ∧ Hid (n = (ps.take i).flatten.length) ∧ Hid (St W0 (Row (.slice D n d) 5 1 n (bvL (ps.take i).flatten) :: Blk go (bv (List.replicate 64 0)) 55 :: L) X)) (fun _ _ k _ => ps.length - (intOf k).toNat)
  case atStart => exact ⟨0, 0, none, 0, Nat.zero_le _, rfl, rfl, Nat.zero_le _, hid rfl, H1⟩
  case round =>
    clear H1 HH
    obtain ⟨i, n, D, d, hi, rfl, rfl, hn, HN, HS⟩ := hrel
    have i0 : (0 : Int) ≤ (i : Int) := by omega
    by_cases hlt : i < ps.length
    · have e1 : (i : Int) < (ps.length : Int) := by omega
      obtain ⟨b, hb⟩ : ∃ b, ps[i]? = some b := ⟨_, List.getElem?_eq_getElem hlt⟩
      have HTF := hid (take_flat_step hb)
      have htl := take_flat_le ps (i + 1)
      rw [← HTF.out, List.length_append, ← HN.out] at htl
      obtain ⟨ga, oa, B, cb, rfl, hc1, hc2, hX3⟩ := HP.out i b hb
      have cx := (hX3 _ HS.out.drop.drop).1
      have HX3 := hid (fun X hX => (hX3 X hX).2)
      have hnb : n + b.length ≤ 10000 := by omega
      clear hb hX3
      go_wp2_with (refine wpList_append_bytes _ _ _ rfl (.slice D n d) rfl B cb b rfl rfl 5 i5 Tryd.underlying42 HI.out.1 HI.out.2.1 HI.out.2.2.1 HI.out.2.2.2 n _ HS.out.row (HX3.out _ HS.out.drop.drop) (by omega) ?_; intro v' X6 hO2 hT2 hfr; have H6 := hid (HS.out.grow hO2 hT2 hfr); clear hO2 hT2 hfr; rw [← bvL_app, HTF.out] at H6; obtain ⟨B2, d2, hv', _⟩ := row_slice H6.out; subst hv')
      go_roundw
      case rel => exact ⟨i + 1, n + b.length, B2, d2, by omega, by go_num, rfl, hnb, hid (by rw [← HTF.out, List.length_append, ← HN.out]), H6⟩
      case measure => (simp [intOf] <;> omega)
    · have e1 : ¬ (i : Int) < (ps.length : Int) := by omega
      obtain rfl : i = ps.length := by omega
      rw [List.take_length] at HS HN
      obtain ⟨fl, hfl⟩ : ∃ fl, fl = ps.flatten := ⟨_, rfl⟩
      rw [← hfl] at HS HN
      clear hfl hm
      go_wp2_with (first | (refine wpList_buildSlice1 _ rfl (.int .u8 128) (by simp [Act.eval]) rfl Tryd.underlying42 zero5s size5s (by decide) (by decide) rfl ?_; intro gn X4 hS hgs hges hX1b; have H4 := hid (HS.out.turn hX1b); have HNW := hid (news_box hS [.int .u8 128] rfl); clear hS hgs hges hX1b) | (refine wpList_append_at _ _ _ rfl (.slice D n d) rfl ⟨gn, 0, none⟩ 1 1 rfl rfl 5 i5 (.int .u8 0) 1 1 Tryd.underlying42 HI.out.1 HI.out.2.1 HI.out.2.2.1 HI.out.2.2.2 rfl (by decide) n (bvL fl) H4.out.row [.int .u8 128] rfl HNW.out (by simp [Value.oneCell']) (by unfold maxLen; omega) (by omega) ?_; intro v' X5 hO2 hT2 hfr; have H5 := hid (H4.out.grow hO2 hT2 hfr); clear hO2 hT2 hfr; obtain ⟨B1, d1, hv', _⟩ := row_slice H5.out; subst hv'))
      obtain ⟨b1, hb1⟩ : ∃ b, b = fl ++ [128] := ⟨_, rfl⟩
      have HB1 := hid (show b1.length = n + 1 by rw [hb1, List.length_append, ← HN.out]; rfl)
      rw [show bvL fl ++ [Value.int .u8 128] = bvL b1 by rw [hb1]; simp [bvL]] at H5
      clear hb1 HN H4 HNW HS HP
      go_loopw [3] (fun v X => ∃ (m : Nat) (D : Option Addr) (d : Nat) (b : List UInt8), v = .slice D m d ∧ 1 ≤ m ∧ m + (240 - m % 128) % 128 ≤ 10128 ∧ Hid (b.length = m) ∧ Hid (St W0 (Row (.slice D m d) 5 1 m (bvL b) :: Blk go (bv (List.replicate 64 0)) 55 :: L) X)) (fun v _ => (240 - lenOf v % 128) % 128)
      case atStart => exact ⟨n + 1, B1, d1, b1, rfl, by omega, by omega, HB1, H5⟩
      case round =>
        clear H5 HB1
        obtain ⟨m, D, d, b, rfl, hm1, hmb, HL, HS⟩ := hrel
        have m0 : (0 : Int) ≤ (m : Int) := by omega
        obtain ⟨q, hq⟩ : ∃ q, q = m % 128 := ⟨_, rfl⟩
        have em : (m : Int).tmod 128 = (q : Int) := by rw [Int.tmod_eq_emod_of_nonneg m0]; omega
        have em2 : (m : Int) % 128 = (q : Int) := by omega
        have HQ := hid hq
        have HMB := hid (And.intro hm1 hmb)
        by_cases h112 : q = 112
        · have e2 : (q : Int) = 112 := by omega
          obtain ⟨gb, hgb⟩ := row_some HS.out (by omega)
          subst hgb
          have hm2 : m + 8 ≤ 1000000 := by omega
          have HM8 := hid (show m % 128 = 112 ∧ m ≤ 10128 by omega)
          clear hq hm1 hmb
          go_wp2_with (refine wpList_append_zeros _ _ 42 3 rfl rfl (kq := .i64) (m := 8) rfl rfl 5 i5 Tryd.underlying42 Tryd.underlying3 HI.out.1 HI.out.2.1 HI.out.2.2.1 HI.out.2.2.2 HS.out.row (by decide) hm2 ?_; intro v' X5 hO2 hT2 hfr; have H5 := hid (HS.out.grow hO2 (hT2.mono fun _ _ e => by subst e; rfl) hfr); clear hO2 hT2 hfr; obtain ⟨B1, d1, hv', _⟩ := row_slice H5.out; subst hv')
          obtain ⟨b2, hb2⟩ : ∃ x, x = b ++ List.replicate 8 0 := ⟨_, rfl⟩
          have HB2 := hid (show b2.length = m + 8 by rw [hb2, List.length_append, HL.out, List.length_replicate])
          rw [← hb2] at H5
          clear hb2 HL HS em em2 e2
          go_loopw [3, 7] (fun v j X => ∃ (k : Nat) (ji : Int) (D : Option Addr) (d : Nat) (b : List UInt8), k ≤ 8 ∧ ji = 7 - (k : Int) ∧ v = .slice D (m + 8 + k) d ∧ j = .int .i64 ji ∧ Hid (b.length = m + 8 + k) ∧ Hid (St W0 (Row (.slice D (m + 8 + k) d) 5 1 (m + 8 + k) (bvL b) :: Blk go (bv (List.replicate 64 0)) 55 :: L) X)) (fun _ j _ => (intOf j + 1).toNat)
          case atStart => exact ⟨0, 7, B1, d1, b2, Nat.zero_le _, by omega, rfl, rfl, HB2, H5⟩
          case round =>
            clear H5 HB2
            obtain ⟨k, ji, D, d, b, hk8, hji, rfl, rfl, HL, HS⟩ := hrel
            have HJ := hid hji
            by_cases hlt : k < 8
            · have e1 : (0 : Int) ≤ ji := by omega
              have e2 : ji ≤ 7 := by omega
              obtain ⟨z, hz⟩ := u8_ex ((n : Int) * 8 / 2 ^ (8 * ji).toNat)
              have hm4 : m + 8 + k + 1 ≤ maxLen := by unfold maxLen; omega
              have hm5 : (m + 8 + k + 1) * 1 ≤ 140737488355328 := by omega
              clear hji
              go_wp2_with (first | (refine wpList_buildSlice1 _ rfl (.int .u8 z.toNat) (by simp [Act.eval]; exact hz) rfl Tryd.underlying42 zero5s size5s (by decide) (by decide) rfl ?_; intro gn X4 hS hgs hges hX1b; have H4 := hid (HS.out.turn hX1b); have HNW := hid (news_box hS [.int .u8 z.toNat] rfl); clear hS hgs hges hX1b) | (refine wpList_append_at _ _ _ rfl (.slice D (m + 8 + k) d) rfl ⟨gn, 0, none⟩ 1 1 rfl rfl 5 i5 (.int .u8 0) 1 1 Tryd.underlying42 HI.out.1 HI.out.2.1 HI.out.2.2.1 HI.out.2.2.2 rfl (by decide) (m + 8 + k) (bvL b) H4.out.row [.int .u8 z.toNat] rfl HNW.out (by simp [Value.oneCell']) hm4 hm5 ?_; intro v' X5 hO2 hT2 hfr; have H5 := hid (H4.out.grow hO2 hT2 hfr); clear hO2 hT2 hfr; obtain ⟨B1, d1, hv', _⟩ := row_slice H5.out; subst hv'))
              rw [show bvL b ++ [Value.int .u8 z.toNat] = bvL (b ++ [z]) by simp [bvL]] at H5
              go_roundw
              case rel => exact ⟨k + 1, ji - 1, B1, d1, b ++ [z], by omega, by rw [HJ.out]; omega, rfl, rfl, hid (by rw [List.length_append, HL.out]; rfl), H5⟩
              case measure => (simp [intOf] <;> omega)
            · have e1 : ¬ (0 : Int) ≤ ji := by omega
              obtain rfl : k = 8 := by omega
              obtain ⟨N, hN⟩ : ∃ N, N = m + 8 + 8 := ⟨_, rfl⟩
              obtain ⟨all, hall⟩ : ∃ a, a = b := ⟨_, rfl⟩
              rw [← hN, ← hall] at HS
              rw [← hN]
              have HNA := hid (show N = all.length by rw [hall, hN]; exact HL.out.symm)
              have HN8 := hid (show N % 128 = 0 ∧ N ≤ 20000 by have := HM8.out; omega)
              clear HL hall hN hji
              obtain ⟨l0, l1, t0, f0, t1, f1, h8, h80, h0, h1⟩ := HG.out _ _ HS.out
              have LG : (loadK 91 (.pointer (some ⟨0, 0, none⟩))).run Tryd.prog wr = .ok (.value (.agg (w64 l0))) wr := run_loadK_box h0 Tryd.underlying91 rfl size8l ((w64_size _).trans h8)
              have HL0 := hid h8
              have HS0 := hid ((w64_size l0).trans h8)
              clear h0 h1 h8 h80
              have HV1 := hid (show St W0 (Vals [.slice D N d] [all] :: Blk go (bv (List.replicate 64 0)) 55 :: L) wr from HS.out.row_val HNA.out)
              go_wp2_with (first | (refine wpList_alloc 91 rfl rfl (.agg (w64 (List.replicate 8 0))) zero8l ?_; intro gh W2 h1 hl1 hg1 hW1; have H2 := hid (HV1.out.newBlk hW1 hg1 h1); clear h1 hl1 hg1 hW1 LG) | (refine wpList_store_box 91 _ _ rfl gh rfl rfl (w64 l0) rfl 8 size8l HS0.out (w64_one _) 91 _ H2.out.blk HZ8.out ?_; intro W5 hB hT hs; have H5 := hid (H2.out.put hB hT); clear hB hT hs))
              have HV2 := hid (vals_one H5.out.at2 HNA.out)
              go_loopw [3] (fun v X => ∃ (i : Nat) (B' : Option Addr) (c' : Nat) (rr : List UInt8) (hs : List UInt64), 128 * i ≤ N ∧ v = .slice B' rr.length c' ∧ rr.length ≤ c' ∧ c' ≤ maxLen ∧ Hid (rr = all.drop (128 * i)) ∧ Hid (hs.length = 8) ∧ Hid (∀ X M, St W0 (Vals [.slice D N d] [all] :: M) X → BytesIn X B' rr) ∧ Hid (St W0 (Blk gh (w64 hs) 91 :: Vals [.slice D N d] [all] :: Blk go (bv (List.replicate 64 0)) 55 :: L) X)) (fun v _ => lenOf v)
              case atStart => exact ⟨0, D, d, all, l0, Nat.zero_le _, by rw [← HNA.out], by have := HV2.out.2.1; have := HNA.out; omega, HV2.out.2.2, hid rfl, HL0, hid (fun X M hX => (vals_one hX HNA.out).1), H5⟩
              case round =>
                clear H2 H5 HV2 HS HV1
                obtain ⟨i, B', c', rr, hs, hi, rfl, hrr1, hrr2, HRR, HL8, HBR, HS⟩ := hrel
                have HRL := hid (show rr.length = N - 128 * i by rw [HRR.out, List.length_drop, HNA.out])
                unfold maxLen at hrr2
                by_cases h64 : 128 ≤ rr.length
                · have e1 : (0 : Int) < (rr.length : Int) := by omega
                  have e2 : (128 : Int) ≤ (c' : Int) := by omega
                  have e2b : (128 : Int) ≤ (rr.length : Int) := by omega
                  have e3 : 128 ≤ c' := by omega
                  obtain ⟨b0, hb0⟩ : ∃ b, rr[0]? = some b := ⟨_, List.getElem?_eq_getElem (by omega)⟩
                  obtain ⟨gb, ob, rfl, _, _⟩ := HBR.out wr _ HS.out.at2 0 b0 hb0
                  have HPR := hid (show ∀ X, St W0 (Blk gh (w64 hs) 91 :: Vals [.slice D N d] [all] :: Blk go (bv (List.replicate 64 0)) 55 :: L) X → Calls Tryd.prog 42 #[.agg (w64 hs), .slice (some ⟨gb, ob, none⟩) rr.length c'] X fun x w' => (∃ h', h'.length = 8 ∧ x = .returned (.agg (w64 h'))) ∧ Below X.heap.size X w' from fun X hX => press5_ok HL8.out (HG.out X _ hX) (HBR.out X _ hX.at2) h64 rfl)
                  have HWS3 := hid ((w64_size hs).trans HL8.out)
                  have HLD := hid (show ∀ X, St W0 (Blk gh (w64 hs) 91 :: Vals [.slice D N d] [all] :: Blk go (bv (List.replicate 64 0)) 55 :: L) X → (loadK 91 (.pointer (some ⟨gh, 0, none⟩))).run Tryd.prog X = .ok (.value (.agg (w64 hs))) X from fun X hX => run_loadK_box hX.blk Tryd.underlying91 rfl size8l HWS3.out)
                  have HBN := hid (show ∀ X M, St W0 (Vals [.slice D N d] [all] :: M) X → BytesIn X (if c' = 128 then some ⟨gb, ob, none⟩ else some ⟨gb, ob + 128, none⟩) (rr.drop 128) from fun X M hX => by
                    by_cases hc : c' = 128
                    · rw [List.drop_of_length_le (by omega)]
                      intro k b hk; cases hk
                    · rw [if_neg hc]
                      exact (HBR.out X M hX).shift 128)
                  have LD := HLD.out _ HS.out
                  clear hb0
                  go_wp2_with (first | (go_at_call 42; (with_reducible refine (HPR.out _ HS.out).mono ?_); rintro v X3 ⟨⟨h', hl', rfl⟩, hb⟩; have H3 := hid (HS.out.turn hb); have HL' := hid hl'; have HWS2 := hid ((w64_size h').trans hl'); clear hb hl' LD) | (refine wpList_store_box 91 _ _ rfl gh rfl rfl (w64 h') rfl 8 size8l HWS2.out (w64_one _) 91 _ H3.out.blk HWS3.out ?_; intro X4 hB hT hs2; have H4 := hid (H3.out.put hB hT); clear hB hT hs2))
                  go_roundw
                  case rel => exact ⟨i + 1, if c' = 128 then some ⟨gb, ob, none⟩ else some ⟨gb, ob + 128, none⟩, c' - 128, rr.drop 128, h', by have := HRL.out; omega, by rw [List.length_drop], by rw [List.length_drop]; omega, by unfold maxLen; omega, hid (by rw [HRR.out, List.drop_drop]; congr 1), HL', HBN, H4⟩
                  case measure => (simp [lenOf] <;> omega)
                · have hl0 : rr.length = 0 := by have := HRL.out; have := HN8.out; omega
                  have e1 : ¬ (0 : Int) < (rr.length : Int) := by omega
                  have HVS := hid ((w64_size hs).trans HL8.out)
                  clear hl0
                  go_wp2_with (refine wpList_alloc 55 rfl rfl (.agg (bv (List.replicate 64 0))) zero64b ?_; intro g9 W6 h1 hl1 hg1 hW1; have H6 := hid (HS.out.newBlk hW1 hg1 h1); clear h1 hl1 hg1 hW1; have LB2 : (loadK 91 (.pointer (some ⟨gh, 0, none⟩))).run Tryd.prog W6 = .ok (.value (.agg (w64 hs))) W6 := run_loadK_box H6.out.at2.blk Tryd.underlying91 rfl size8l HVS.out)
                  go_loopw [10, 11, 12, 61, 65] (fun _ _ _ v _ X => ∃ (j : Nat) (l : List UInt8), j ≤ 8 ∧ v = .int .i64 j ∧ Hid (l.length = 64) ∧ Hid (St W0 (Blk g9 (bv l) 55 :: Blk gh (w64 hs) 91 :: Vals [.slice D N d] [all] :: Blk go (bv (List.replicate 64 0)) 55 :: L) X)) (fun _ _ _ v _ _ => 8 - (intOf v).toNat)
                  case atStart => exact ⟨0, List.replicate 64 0, Nat.zero_le _, rfl, hid (by rw [List.length_replicate]), H6⟩
                  case round =>
                    clear H6 HS
                    obtain ⟨j, l, hj, rfl, HLL, HS⟩ := hrel
                    have j0 : (0 : Int) ≤ (j : Int) := by omega
                    by_cases hlt : j < 8
                    · have e1 : (j : Int) < 8 := by omega
                      obtain ⟨x, hx⟩ : ∃ x, x = hs.getD j 0 := ⟨_, rfl⟩
                      have IX : (Instr.index 91 (.agg (w64 hs)) (.int .i64 j)).run Tryd.prog wr = .ok (.int .u64 (x.toNat : Int)) wr := by rw [hx]; exact run_index_w64 Tryd.underlying91 Tryd.underlying65 sizeU64 hs HL8.out j hlt wr
                      clear hx
                      go_wp2_with fail
                      go_loopw [12, 65] (fun _ v X => ∃ (k : Nat) (l : List UInt8), k ≤ 8 ∧ v = .int .i64 k ∧ Hid (l.length = 64) ∧ Hid (St W0 (Blk g9 (bv l) 55 :: Blk gh (w64 hs) 91 :: Vals [.slice D N d] [all] :: Blk go (bv (List.replicate 64 0)) 55 :: L) X)) (fun _ v _ => 8 - (intOf v).toNat)
                      case atStart => exact ⟨0, l, Nat.zero_le _, rfl, HLL, HS⟩
                      case round =>
                        clear HS HLL
                        obtain ⟨k, l, hk, rfl, HLL, HS⟩ := hrel
                        have k0 : (0 : Int) ≤ (k : Int) := by omega
                        by_cases hlt2 : k < 8
                        · have e2 : (k : Int) < 8 := by omega
                          obtain ⟨p, hp⟩ : ∃ p, p = 8 * j + k := ⟨_, rfl⟩
                          have ep : 8 * (j : Int) + (k : Int) = (p : Int) := by omega
                          have hp1 : (p : Int) < 64 := by omega
                          have hp2 : p < 64 := by omega
                          have hs0 : (0 : Int) ≤ 8 * (7 - (k : Int)) := by omega
                          have hs1 : (k : Int) ≤ 7 := by omega
                          obtain ⟨z, hz⟩ := u8_ex ((x.toNat : Int) / 2 ^ (8 * (7 - k)))
                          have cp : ∃ u, wr.cell? ⟨g9, p, none⟩ = some u := by
                            rw [cell_of_row wr g9 p _ _ _ HS.out.blk]
                            exact ⟨_, Array.getElem?_eq_getElem (by rw [bv_size, HLL.out]; exact hp2)⟩
                          obtain ⟨u, hu⟩ := cp
                          have f3 := frozen_of_row wr g9 p _ _ HS.out.blk
                          have HS2 := hid (HS.out.setCell p (.int .u8 z.toNat))
                          rw [bv_set] at HS2
                          clear hp
                          go_wp2_with fail
                          go_roundw
                          case rel => exact ⟨k + 1, l.set p z, by omega, by go_num, hid (by rw [List.length_set]; exact HLL.out), HS2⟩
                          case measure => (simp [intOf] <;> omega)
                        · have e2 : ¬ (k : Int) < 8 := by omega
                          obtain rfl : k = 8 := by omega
                          go_wp2_with fail
                          go_roundw
                          case rel => exact ⟨j + 1, l, by omega, by go_num, HLL, HS⟩
                          case measure => (simp [intOf] <;> omega)
                    · have e1 : ¬ (j : Int) < 8 := by omega
                      obtain rfl : j = 8 := by omega
                      have HZ := hid ((bv_size l).trans HLL.out)
                      have LB : (loadK 55 (.pointer (some ⟨g9, 0, none⟩))).run Tryd.prog wr = .ok (.value (.agg (bv l))) wr := run_loadK_box HS.out.blk Tryd.underlying55 rfl size64b HZ.out
                      go_wp2_with (refine wpList_store_box 55 _ _ rfl go rfl rfl (bv l) rfl 64 size64b HZ.out (bv_one _) 55 _ HS.out.at4.blk HZ64.out ?_; intro W5 hB5 hT5 hs5; have H5 := hid (HS.out.at4.put hB5 hT5))
                      exact bodyPost_ret (results_cell rfl _ _ _ go 55 (bv _) (0, 0) rfl hB5 Tryd.underlying55 (by rw [HZ.out]; exact size64b)) rfl ⟨⟨l, HLL.out, rfl⟩, H5.out.drop.drop.drop.drop⟩
        · have e2 : ¬ (q : Int) = 112 := by omega
          have hm2 : m + 1 ≤ maxLen := by unfold maxLen; omega
          have hm3 : (m + 1) * 1 ≤ 140737488355328 := by omega
          clear hq hm1 hmb
          go_wp2_with (first | (refine wpList_buildSlice1 _ rfl (.int .u8 0) (by simp [Act.eval]) rfl Tryd.underlying42 zero5s size5s (by decide) (by decide) rfl ?_; intro gn X4 hS hgs hges hX1b; have H4 := hid (HS.out.turn hX1b); have HNW := hid (news_box hS [.int .u8 0] rfl); clear hS hgs hges hX1b) | (refine wpList_append_at _ _ _ rfl (.slice D m d) rfl ⟨gn, 0, none⟩ 1 1 rfl rfl 5 i5 (.int .u8 0) 1 1 Tryd.underlying42 HI.out.1 HI.out.2.1 HI.out.2.2.1 HI.out.2.2.2 rfl (by decide) m (bvL b) H4.out.row [.int .u8 0] rfl HNW.out (by simp [Value.oneCell']) hm2 hm3 ?_; intro v' X5 hO2 hT2 hfr; have H5 := hid (H4.out.grow hO2 hT2 hfr); clear hO2 hT2 hfr; obtain ⟨B1, d1, hv', _⟩ := row_slice H5.out; subst hv'))
          rw [show bvL b ++ [Value.int .u8 0] = bvL (b ++ [0]) by simp [bvL]] at H5
          go_roundw
          case rel => exact ⟨m + 1, B1, d1, b ++ [0], rfl, by omega, by have := HMB.out; have := HQ.out; omega, hid (by rw [List.length_append, HL.out]; rfl), H5⟩
          case measure => (have := HQ.out; simp [lenOf] <;> omega)
end
end Go.Proofs.YtnakbdgoaepehaaDoor
