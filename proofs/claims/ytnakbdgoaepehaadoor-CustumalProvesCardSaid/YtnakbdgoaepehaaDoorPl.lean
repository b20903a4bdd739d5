/- CustumalProves: of each version of a tree each leaf is proved, and that no other key has one: for all leaves and keys. The two tables of the sums are tied to the program's text by the card. -/
import Derived.Test.YtnakbdgoaepehaaDoorPb7
import Derived.Test.YtnakbdgoaepehaaDoorRows
import Derived.Test.YtnakbdgoaepehaaDoorCards
import Derived.Test.YtnakbdgoaepehaaDoorTie
import Derived.ChangeOld
import Derived.Stop.Joined
import Derived.SevenTiedAt
/- CustumalProves: the walk. -/
namespace Go.Cu
open Go Go.RowKit
/-- A thing that is there or not yet. -/
def flg (b : Bool) (a : Atm) : List Atm := match b with
  | true => [a]
  | false => []
theorem exists_put9 {a : Act} {i0 i1 i2 i3 i4 i5 i6 i7 i8 : Tmp} {R : Prop} (h : ∀ x0 x1 x2 x3 x4 x5 x6 x7 x8, a = (((((((((a.put (some i0) x0).put (some i1) x1).put (some i2) x2).put (some i3) x3).put (some i4) x4).put (some i5) x5).put (some i6) x6).put (some i7) x7).put (some i8) x8) → R) : R :=
  h (a.tmps.getD i0 undef) (a.tmps.getD i1 undef) (a.tmps.getD i2 undef) (a.tmps.getD i3 undef) (a.tmps.getD i4 undef) (a.tmps.getD i5 undef) (a.tmps.getD i6 undef) (a.tmps.getD i7 undef) (a.tmps.getD i8 undef) (by rw [put_self, put_self, put_self, put_self, put_self, put_self, put_self, put_self, put_self])
theorem exists_put10 {a : Act} {i0 i1 i2 i3 i4 i5 i6 i7 i8 i9 : Tmp} {R : Prop} (h : ∀ x0 x1 x2 x3 x4 x5 x6 x7 x8 x9, a = ((((((((((a.put (some i0) x0).put (some i1) x1).put (some i2) x2).put (some i3) x3).put (some i4) x4).put (some i5) x5).put (some i6) x6).put (some i7) x7).put (some i8) x8).put (some i9) x9) → R) : R :=
  h (a.tmps.getD i0 undef) (a.tmps.getD i1 undef) (a.tmps.getD i2 undef) (a.tmps.getD i3 undef) (a.tmps.getD i4 undef) (a.tmps.getD i5 undef) (a.tmps.getD i6 undef) (a.tmps.getD i7 undef) (a.tmps.getD i8 undef) (a.tmps.getD i9 undef) (by rw [put_self, put_self, put_self, put_self, put_self, put_self, put_self, put_self, put_self, put_self])
end Go.Cu
namespace Go.Proofs.YtnakbdgoaepehaaDoor
open Go.RowKit Go.Cu
@[go_sem ↓] theorem eqktSUM (a : Act) (dst : Option Tmp) (x y : Operand) (t' ty : TypeId) (pos : String) (after : Array Edge) (guard : Option (Nat × Bool)) :
      execOp a.eval { dst, op := .binOp .eql 23 x y t', type := ty, pos, after, guard } = cmpK .eql 23 x y (a.eval x) (a.eval y) := rfl
set_option maxRecDepth 40000 in
set_option maxHeartbeats 80000000 in
theorem proves_walk {A : Option Addr} {c : Nat} {ls : List Lv} {k : List UInt8} (w : World) (hG : Glob w) (hin : LeavesIn w A ls) (ha : LeavesOk ls) (hc : ls.length ≤ c) (hk : k.length = 32) :
    Calls Tryd.prog 3 #[.slice A ls.length c, .agg (bv k)] w fun x w' => x = .returned (.bool true) ∧ Below w.heap.size w w' := by
  obtain ⟨m, hm⟩ : ∃ m, m = min ls.length 8 := ⟨_, rfl⟩
  obtain ⟨lt, hlt⟩ : ∃ lt, lt = ls.take m := ⟨_, rfl⟩
  have HLN := hid (show lt.length = m by rw [hlt, List.length_take]; omega)
  have HOK := hid (show LeavesOk lt by rw [hlt]; exact ha.take m)
  have HLV := hid (fun (X : World) (M : List Atm) (hX : St w M X) => leaves_st hX hin ha rfl hc hm)
  rw [← hlt] at HLV
  have HK := hid (fun (g : Nat) (X : World) (hc : X.heap[g]? = some (.cells (bv k) 24 (0, 0))) => run_loadK_box (P := Tryd.prog) hc Tryd.underlying24 rfl size24 ((bv_size k).trans hk))
  have HG := hid hG
  have HKL := hid hk
  have HZ32 := hid zero32_size
  have HM8 := hid (show m ≤ 8 by omega)
  have HSTD := hid (fun (X : World) (M : List Atm) (hX : St w M X) => stands_st hX hG)
  obtain ⟨nl, hnl⟩ : ∃ nl, nl = ls.length := ⟨_, rfl⟩
  rw [← hnl] at HLV ⊢
  clear hG hin ha hc hk hm hlt hnl
  go_enter Tryd.func3, Tryd.ntmps3
  go_wp2_with (first | (refine wpList_box rfl 24 _ rfl (.agg (bv k)) rfl ?_; intro gk W1 h1 hl1 hg1 hW1; have H1 := hid (show St w [Blk gk (bv k) 24] W1 from (St.start w).newBlk hW1 hg1 h1); clear h1 hl1 hg1 hW1) | (go_at_call 6; (with_reducible refine (HLV.out _ _ H1.out).mono ?_); rintro r w3 ⟨B, d, rfl, hst⟩; have H2 := hid (hst.nilTree); clear hst))
  clear H1 HLV
  go_loopw [5, 6] (fun tv iv X => ∃ (i : Nat) (t : Tr), i ≤ m ∧ iv = .int .i64 i ∧ Hid (t.WF 0) ∧ Hid (St w [TreeA tv t, Row (.slice B m d) 30 64 m (leavesV lt), Blk gk (bv k) 24] X)) (fun _ iv _ => m - (intOf iv).toNat)
  case atStart => exact ⟨0, .nil, by omega, rfl, hid trivial, H2⟩
  case round =>
    clear H2
    obtain ⟨i, t, hi, rfl, HW, H2⟩ := hrel
    have i0 : (0 : Int) ≤ (i : Int) := by omega
    by_cases hlt : i < m
    · have i1 : (i : Int) < (m : Int) := by omega
      have i2 : (i : Int) ≤ 8 := by have := HM8.out; omega
      have HI := hid hlt
      obtain ⟨⟨lk, lv⟩, hp⟩ : ∃ p, lt[i]? = some p := ⟨_, List.getElem?_eq_getElem (by rw [HLN.out]; exact hlt)⟩
      have HP32 := hid (HOK.out _ (List.mem_of_getElem? hp))
      obtain ⟨ss, th, x, y, hS⟩ := shown_any (k := k) HW.out
      have HS := hid hS
      obtain ⟨n, hn⟩ : ∃ n, n = ss.length := ⟨_, rfl⟩
      have HN := hid hn
      obtain ⟨gB, rfl⟩ := row_some H2.out.at2 (by omega)
      have HLL := hid (fun (X : World) (M : List Atm) (hX : St w (Row (.slice (some ⟨gB, 0, none⟩) m d) 30 64 m (leavesV lt) :: M) X) => show (loadK 30 (.pointer (some ⟨gB, i * 64, none⟩))).run Tryd.prog X = .ok (.value (.agg (leafC lk lv))) X ∧ (loadK 24 (.pointer (some ⟨gB, i * 64, none⟩))).run Tryd.prog X = .ok (.value (.agg (bv lk))) X ∧ (loadK 23 (.pointer (some ⟨gB, i * 64 + 32, none⟩))).run Tryd.prog X = .ok (.value (.agg (bv lv))) X from by
        have hsz := leafC_size HP32.out.1 HP32.out.2
        obtain ⟨g1, e1, h1⟩ := lrow_load (t := 30) (vs := leafC lk lv) (o' := 0) hX HOK.out hp Tryd.underlying30 rfl sizeLeaf hsz (by decide) (fun j _ => by rw [Nat.zero_add])
        obtain ⟨g2, e2, h2⟩ := lrow_load (t := 24) (vs := bv lk) (o' := 0) hX HOK.out hp Tryd.underlying24 rfl size24 ((bv_size lk).trans HP32.out.1) (by decide) leafC_key
        obtain ⟨g3, e3, h3⟩ := lrow_load (t := 23) (vs := bv lv) (o' := 32) hX HOK.out hp Tryd.underlying23 rfl size54s ((bv_size lv).trans HP32.out.2) (by decide) (leafC_val HP32.out.1)
        cases e1; cases e2; cases e3
        exact ⟨h1 _ rfl, h2 _ rfl, h3 _ rfl⟩)
      obtain ⟨rs, hrs⟩ : ∃ rs, rs = t.sum sumL := ⟨_, rfl⟩
      have HRS := hid hrs
      have HRL := hid (show rs.length = 32 by rw [hrs]; exact sum_len t)
      have HRZ := hid (show (bv rs).size = 32 by rw [bv_size]; exact HRL.out)
      have HRO := hid (fun (X : World) (v : Value) (M : List Atm) (hX : St w (TreeA v t :: M) X) => root_at hX HG.out)
      rw [← hrs] at HRO
      have HPV := hid (fun (X : World) (v : Value) (M M' : List Atm) (hX : St w M X) (hX' : St w (TreeA v t :: M') X) => prove_at hX hX' HG.out HW.out HKL.out HS.out hn)
      have HPU := hid (fun (X : World) (v : Value) (M : List Atm) (hX : St w (TreeA v t :: M) X) => put_at hX HG.out HW.out HP32.out.1 HP32.out.2)
      have HPS := hid (proofC_size (sv := .slice none 0 0) (th := false) zsize)
      have HPS2 := hid (fun (A : Option Addr) (c : Nat) => proofC_size (sv := .slice A n c) (th := th) (leafC_size HS.out.key HS.out.val))
      clear hp hS hn hrs hlt hi
      go_upto_region 9 with (first | (go_at_call 7; (with_reducible refine (HRO.out _ _ _ H2.out).mono ?_); rintro r w3 ⟨rfl, hb⟩; have H3 := hid (H2.out.turn hb); clear hb) | (refine wpList_alloc 23 rfl rfl (.agg (bv (List.replicate 32 0))) zero54s ?_; intro g7 W1 h1 hl1 hg1 hW1; have H4 := hid (H3.out.newBlk hW1 hg1 h1); clear h1 hl1 hg1 hW1) | (refine wpList_store_box 23 _ _ rfl g7 rfl rfl (bv rs) rfl 32 size54s HRZ.out (bv_one _) 23 _ H4.out.blk HZ32.out ?_; intro Xs hB7 hT7 hs7; have H5 := hid (H4.out.put hB7 hT7); have LK := HK.out _ _ H5.out.at4.blk; clear hB7 hT7 hs7) | (go_at_call 8; (with_reducible refine (HPV.out _ _ _ _ H5.out H5.out.at2).mono ?_); rintro r w3 ⟨Ap, cp, rfl, hst⟩; have H6 := hid hst; clear hst LK) | (refine wpList_alloc 32 rfl rfl (.agg (proofC (.slice none 0 0) false (leafC zeroK zeroK))) zeroProof ?_; intro g8 W2 h1 hl1 hg1 hW1; have H7 := hid (H6.out.newBlk hW1 hg1 h1); clear h1 hl1 hg1 hW1) | (refine wpList_store_box 32 _ _ rfl g8 rfl rfl (proofC (.slice Ap n cp) th (leafC x y)) rfl 66 sizeProof (HPS2.out _ _) (proofC_one (leafC_one _ _)) 32 _ H7.out.blk HPS.out ?_; intro Xs hB7 hT7 hs7; have H8 := hid (H7.out.put hB7 hT7); have LL := (HLL.out _ _ H8.out.at5).1; clear hB7 hT7 hs7) | (go_at_call 9; (with_reducible refine (HPU.out _ _ _ H8.out.at4).mono ?_); rintro r w3 ⟨p2, rfl, hst⟩; have H9 := hid hst; clear hst LL))
      obtain ⟨t2, ht2⟩ : ∃ t2, t2 = t.put lk lv 0 := ⟨_, rfl⟩
      have hS2 := shown_put HW.out HP32.out.1 HP32.out.2
      have HW2 := hid (put_wf HP32.out.1 HP32.out.2 t 0 HW.out (agree0 t) (by decide))
      rw [← ht2] at H9 hS2 HW2
      clear ht2
      obtain ⟨ss2, hss2⟩ : ∃ ss2, ss2 = t2.beside sumL lk 0 := ⟨_, rfl⟩
      rw [← hss2] at hS2
      have HS2 := hid hS2
      obtain ⟨n2, hn2⟩ : ∃ n2, n2 = ss2.length := ⟨_, rfl⟩
      obtain ⟨rt, hrt⟩ : ∃ rt, rt = t2.sum sumL := ⟨_, rfl⟩
      have HRT := hid hrt
      have HRTL := hid (show rt.length = 32 by rw [hrt]; exact sum_len t2)
      have HRO2 := hid (fun (X : World) (hX : St w [TreeA (.pointer p2) t2, Blk g8 (proofC (.slice Ap n cp) th (leafC x y)) 32, Row (.slice Ap n cp) 23 32 n (sumsV ss), Blk g7 (bv rs) 23, Row (.slice (some ⟨gB, 0, none⟩) m d) 30 64 m (leavesV lt), Blk gk (bv k) 24] X) => root_at hX HG.out)
      rw [← hrt] at HRO2
      have HPV2 := hid (fun (X : World) (M : List Atm) (hX : St w M X) (hX' : St w [TreeA (.pointer p2) t2, Blk g8 (proofC (.slice Ap n cp) th (leafC x y)) 32, Row (.slice Ap n cp) 23 32 n (sumsV ss), Blk g7 (bv rs) 23, Row (.slice (some ⟨gB, 0, none⟩) m d) 30 64 m (leavesV lt), Blk gk (bv k) 24] X) => prove_at (k := lk) hX hX' HG.out HW2.out HP32.out.1 HS2.out hn2)
      have HCK2 := hid (fun (X : World) (M : List Atm) (A : Option Addr) (c : Nat) (hX : St w (Row (.slice A n2 c) 23 32 n2 (sumsV ss2) :: M) X) => (check_at hX HG.out HRTL.out HP32.out.1 HS2.out hn2).mono fun (e : Ending) (w' : World) ⟨V, O, E, h1, h2, h3, h4⟩ => show ∃ (V : List UInt8) (O : Bool) (E : Int), e = Ending.returned (.tuple #[.agg (bv V), .bool O, .int .i64 E]) ∧ V.length = 32 ∧ (E = 0 ∧ O = true ∧ V = lv) ∧ St w (Row (.slice A n2 c) 23 32 n2 (sumsV ss2) :: M) w' from ⟨V, O, E, h1, h2, by
        obtain ⟨q1, q2, q3⟩ := h3 HRT.out.symm
        have q4 : O = true := by rw [q2]; simp
        exact ⟨q1, q4, q3 q4⟩, h4⟩)
      have HC9 := hid (fun (X : World) (hX : St w [TreeA (.pointer p2) t2, Blk g8 (proofC (.slice Ap n cp) th (leafC x y)) 32, Row (.slice Ap n cp) 23 32 n (sumsV ss), Blk g7 (bv rs) 23, Row (.slice (some ⟨gB, 0, none⟩) m d) 30 64 m (leavesV lt), Blk gk (bv k) 24] X) => (HLL.out X _ hX.at5).2.1)
      clear hS2 hss2 hn2 hrt H2 H3 H4 H5 H6 H7 H8
      refine wp_region_segs [.ord [(0, 1), (2, 1), (3, 1), (4, 1), (5, 1), (6, 1), (7, 1), (8, 1), (9, 1), (10, 1), (11, 1), (12, 1)], .blk [(1, []), (13, [1]), (14, [1, 13]), (15, [14]), (16, [15]), (17, [15]), (18, [15]), (19, []), (20, [16, 19]), (21, [17, 20]), (22, [18, 21])]] (fun X => St w [TreeA (.pointer p2) t2, Blk g8 (proofC (.slice Ap n cp) th (leafC x y)) 32, Row (.slice Ap n cp) 23 32 n (sumsV ss), Blk g7 (bv rs) 23, Row (.slice (some ⟨gB, 0, none⟩) m d) 30 64 m (leavesV lt), Blk gk (bv k) 24] X) (by kernel_rfl) (by kernel_rfl) (fun d _ c _ _ h => by cases d <;> exact h) (H9.out.turn (Below.drew (Below.refl _ _))) (fun X hXe hX => ?_)
      have H10 := H9.out.turn (Below.drew (Below.refl _ _))
      rw [← hXe] at H10
      replace H10 := hid H10
      clear hXe
      refine wpSegs_ord fun F1 hF1 => ?_
      clear hX H9
      iterate 12 (apply wpOrd_class; ((· first | (rw [List.getElem?_toArray, List.getElem?_cons_zero]; done) | (simp only [List.getElem?_toArray, List.getElem?_cons_succ, List.getElem?_cons_zero]; exact rfl))); (· exact rfl); intro K hK; apply Exists.intro; refine And.intro (fun X' hX' => ?_) ?_; (· have hq := HC9.out _ hX'; clear hX'; go_simp; (try go_bits); first | done | exact rfl | exact ⟨rfl, rfl⟩); go_simp; refine hK _ _ ?_; clear hK K)
      have hs := H10.out
      refine wpOrd_to (hF1 _ _ ?_)
      clear hF1 F1
      refine wpSegs_blk fun F2 hF2 => ?_
      refine bulk_intro (fun a0 done a' w' => ∃ (A2 : Option Addr) (c2 g : Nat) (V : List UInt8) (O : Bool) (E : Int) (xr xp xc xm xe0 xe1 xe2 xal xa1 xa2 : Value), a' = ((((((((((a0.put (some 45) xr).put (some 57) xp).put (some 58) xc).put (some 43) xm).put (some 59) xe0).put (some 60) xe1).put (some 61) xe2).put (some 9) xal).put (some 10) xa1).put (some 11) xa2) ∧ (done 1 = true → xr = .agg (bv rt)) ∧ (done 13 = true → xp = .agg (proofC (.slice A2 n2 c2) true (leafC lk lv))) ∧ (done 14 = true → xc = .tuple #[.agg (bv V), .bool O, .int .i64 E] ∧ V.length = 32 ∧ (E = 0 ∧ O = true ∧ V = lv)) ∧ (done 15 = true → xm = .tuple #[.agg (bv V), .bool O, .int .i64 E]) ∧ (done 16 = true → xe0 = .agg (bv V)) ∧ (done 17 = true → xe1 = .bool O) ∧ (done 18 = true → xe2 = .int .i64 E) ∧ (done 19 = true → xal = .pointer (some ⟨g, 0, none⟩)) ∧ (done 21 = true → xa1 = .bool O) ∧ (done 22 = true → xa2 = .int .i64 E) ∧ (done 14 = false → done 15 = false ∧ done 16 = false ∧ done 17 = false ∧ done 18 = false ∧ done 20 = false ∧ done 21 = false ∧ done 22 = false) ∧ (done 19 = false → done 20 = false) ∧ St w (flg (done 13) (Row (.slice A2 n2 c2) 23 32 n2 (sumsV ss2)) ++ (flg (done 19) (Blk g (bv (bif done 20 then V else List.replicate 32 0)) 23) ++ [TreeA (.pointer p2) t2, Blk g8 (proofC (.slice Ap n cp) th (leafC x y)) 32, Row (.slice Ap n cp) 23 32 n (sumsV ss), Blk g7 (bv rs) 23, Row (.slice (some ⟨gB, 0, none⟩) m d) 30 64 m (leavesV lt), Blk gk (bv k) 24])) w') ?_ ?_ ?_
      · intro done hd
        have dr := hd (1, []) (by simp)
        have dp := hd (13, [1]) (by simp)
        have dc := hd (14, [1, 13]) (by simp)
        have dm := hd (15, [14]) (by simp)
        have de0 := hd (16, [15]) (by simp)
        have de1 := hd (17, [15]) (by simp)
        have de2 := hd (18, [15]) (by simp)
        have dal := hd (19, []) (by simp)
        have dst := hd (20, [16, 19]) (by simp)
        have da1 := hd (21, [17, 20]) (by simp)
        have da2 := hd (22, [18, 21]) (by simp)
        refine exists_put10 (i0 := 45) (i1 := 57) (i2 := 58) (i3 := 43) (i4 := 59) (i5 := 60) (i6 := 61) (i7 := 9) (i8 := 10) (i9 := 11) fun xr xp xc xm xe0 xe1 xe2 xal xa1 xa2 e => ⟨none, 0, 0, [], false, 0, xr, xp, xc, xm, xe0, xe1, xe2, xal, xa1, xa2, e, fun h => (by rw [dr] at h; cases h), fun h => (by rw [dp] at h; cases h), fun h => (by rw [dc] at h; cases h), fun h => (by rw [dm] at h; cases h), fun h => (by rw [de0] at h; cases h), fun h => (by rw [de1] at h; cases h), fun h => (by rw [de2] at h; cases h), fun h => (by rw [dal] at h; cases h), fun h => (by rw [da1] at h; cases h), fun h => (by rw [da2] at h; cases h), fun _ => ⟨dm, de0, de1, de2, dst, da1, da2⟩, fun _ => dst, by rw [dp, dal]; exact hs⟩
      · rintro p hp done a' w' h1 h2 ⟨A2, c2, g, V, O, E, xr, xp, xc, xm, xe0, xe1, xe2, xal, xa1, xa2, rfl, kr, kp, kc, km, ke0, ke1, ke2, kal, ka1, ka2, kd, kf, hst⟩
        clear hs
        simp only [List.mem_cons, List.not_mem_nil, or_false] at hp
        rcases hp with rfl | rfl | rfl | rfl | rfl | rfl | rfl | rfl | rfl | rfl | rfl
        · refine ⟨_, rfl, fun N hN => ?_⟩
          replace hst := hid hst
          have HKS := hid (show _ ∧ _ ∧ _ ∧ _ ∧ _ ∧ _ ∧ _ ∧ _ ∧ _ ∧ _ ∧ _ ∧ _ from ⟨kr, kp, kc, km, ke0, ke1, ke2, kal, ka1, ka2, kd, kf⟩)
          clear kr kp kc km ke0 ke1 ke2 kal ka1 ka2 kd kf
          go_wp2_with (go_at_call 7; (with_reducible refine (HRO2.out _ hst.out.sub.sub).mono ?_); rintro r Xs ⟨rfl, hb⟩)
          obtain ⟨kr, kp, kc, km, ke0, ke1, ke2, kal, ka1, ka2, kd, kf⟩ := HKS.out
          exact hN _ _ (fun _ => (hst.out.turn hb).sub.sub) ⟨A2, c2, g, V, O, E, .agg (bv rt), xp, xc, xm, xe0, xe1, xe2, xal, xa1, xa2, (by go_simp), fun _ => rfl, kp, kc, km, ke0, ke1, ke2, kal, ka1, ka2, kd, kf, hst.out.turn hb⟩
        · refine ⟨_, rfl, fun N hN => ?_⟩
          replace hst := hid hst
          have HKS := hid (show _ ∧ _ ∧ _ ∧ _ ∧ _ ∧ _ ∧ _ ∧ _ ∧ _ ∧ _ ∧ _ ∧ _ from ⟨kr, kp, kc, km, ke0, ke1, ke2, kal, ka1, ka2, kd, kf⟩)
          have hst2 := hst.out
          rw [h1] at hst2
          replace hst2 := hid hst2
          clear kr kp kc km ke0 ke1 ke2 kal ka1 ka2 kd kf
          go_wp2_with (go_at_call 8; (with_reducible refine (HPV2.out _ _ hst2.out hst.out.sub.sub).mono ?_); rintro r Xs ⟨A3, c3, rfl, hst3⟩)
          obtain ⟨kr, kp, kc, km, ke0, ke1, ke2, kal, ka1, ka2, kd, kf⟩ := HKS.out
          exact hN _ _ (fun _ => hst3.drop.sub.sub) ⟨A3, c3, g, V, O, E, xr, .agg (proofC (.slice A3 n2 c3) true (leafC lk lv)), xc, xm, xe0, xe1, xe2, xal, xa1, xa2, (by go_simp), kr, fun _ => rfl, kc, km, ke0, ke1, ke2, kal, ka1, ka2, kd, kf, hst3⟩
        · refine ⟨_, rfl, fun N hN => ?_⟩
          replace hst := hid hst
          obtain rfl := kr (h2 1 (by simp))
          obtain rfl := kp (h2 13 (by simp))
          have HKS := hid (show _ ∧ _ ∧ _ ∧ _ ∧ _ ∧ _ ∧ _ ∧ _ ∧ _ ∧ _ ∧ _ ∧ _ from ⟨kr, kp, kc, km, ke0, ke1, ke2, kal, ka1, ka2, kd, kf⟩)
          have hst2 := hst.out
          rw [h2 13 (by simp)] at hst2
          replace hst2 := hid (show St w (Row (.slice A2 n2 c2) 23 32 n2 (sumsV ss2) :: (flg (done 19) (Blk g (bv (bif done 20 then V else List.replicate 32 0)) 23) ++ [TreeA (.pointer p2) t2, Blk g8 (proofC (.slice Ap n cp) th (leafC x y)) 32, Row (.slice Ap n cp) 23 32 n (sumsV ss), Blk g7 (bv rs) 23, Row (.slice (some ⟨gB, 0, none⟩) m d) 30 64 m (leavesV lt), Blk gk (bv k) 24])) _ from hst2)
          clear kr kp kc km ke0 ke1 ke2 kal ka1 ka2 kd kf
          go_wp2_with (go_at_call 10; (with_reducible refine (HCK2.out _ _ _ _ hst2.out).mono ?_); rintro r Xs ⟨V2, O2, E2, rfl, hV2, hC2, hst3⟩)
          obtain ⟨kr, kp, kc, km, ke0, ke1, ke2, kal, ka1, ka2, kd, kf⟩ := HKS.out
          obtain ⟨d1, d2, d3, d4, d5, d6, d7⟩ := kd h1
          rw [d5] at hst3
          exact hN _ _ (fun _ => hst3.drop.sub) ⟨A2, c2, g, V2, O2, E2, .agg (bv rt), .agg (proofC (.slice A2 n2 c2) true (leafC lk lv)), .tuple #[.agg (bv V2), .bool O2, .int .i64 E2], xm, xe0, xe1, xe2, xal, xa1, xa2, (by go_simp), fun _ => rfl, fun _ => rfl, fun _ => ⟨rfl, hV2, hC2⟩, fun h => absurd (show done 15 = true from h) (by rw [d1]; decide), fun h => absurd (show done 16 = true from h) (by rw [d2]; decide), fun h => absurd (show done 17 = true from h) (by rw [d3]; decide), fun h => absurd (show done 18 = true from h) (by rw [d4]; decide), kal, fun h => absurd (show done 21 = true from h) (by rw [d6]; decide), fun h => absurd (show done 22 = true from h) (by rw [d7]; decide), fun h => (by cases h), kf, (by show St w (flg (done 13) (Row (.slice A2 n2 c2) 23 32 n2 (sumsV ss2)) ++ (flg (done 19) (Blk g (bv (bif done 20 then V2 else List.replicate 32 0)) 23) ++ [TreeA (.pointer p2) t2, Blk g8 (proofC (.slice Ap n cp) th (leafC x y)) 32, Row (.slice Ap n cp) 23 32 n (sumsV ss), Blk g7 (bv rs) 23, Row (.slice (some ⟨gB, 0, none⟩) m d) 30 64 m (leavesV lt), Blk gk (bv k) 24])) Xs; rw [d5, h2 13 (by simp)]; exact hst3)⟩
        · refine ⟨_, rfl, fun N hN => ?_⟩
          replace hst := hid hst
          have hdc := h2 14 (by simp)
          obtain ⟨rfl, _, _⟩ := kc (h2 14 (by simp))
          have HKS := hid (show _ ∧ _ ∧ _ ∧ _ ∧ _ ∧ _ ∧ _ ∧ _ ∧ _ ∧ _ ∧ _ ∧ _ from ⟨kr, kp, kc, km, ke0, ke1, ke2, kal, ka1, ka2, kd, kf⟩)
          clear kr kp kc km ke0 ke1 ke2 kal ka1 ka2 kd kf
          go_wp2_with fail
          obtain ⟨kr, kp, kc, km, ke0, ke1, ke2, kal, ka1, ka2, kd, kf⟩ := HKS.out
          exact hN _ _ (fun _ => hst.out.sub.sub) ⟨A2, c2, g, V, O, E, xr, xp, .tuple #[.agg (bv V), .bool O, .int .i64 E], .tuple #[.agg (bv V), .bool O, .int .i64 E], xe0, xe1, xe2, xal, xa1, xa2, (by go_simp), kr, kp, fun h => ⟨rfl, (kc h).2⟩, fun _ => rfl, ke0, ke1, ke2, kal, ka1, ka2, fun h => absurd (show done 14 = false from h) (by rw [hdc]; decide), kf, hst.out⟩
        · refine ⟨_, rfl, fun N hN => ?_⟩
          replace hst := hid hst
          have hdc : done 14 = true := by cases hc : done 14 with | true => rfl | false => have h3 := kd hc; rw [h2 15 (by simp)] at h3; simp at h3
          obtain rfl := km (h2 15 (by simp))
          have HKS := hid (show _ ∧ _ ∧ _ ∧ _ ∧ _ ∧ _ ∧ _ ∧ _ ∧ _ ∧ _ ∧ _ ∧ _ from ⟨kr, kp, kc, km, ke0, ke1, ke2, kal, ka1, ka2, kd, kf⟩)
          clear kr kp kc km ke0 ke1 ke2 kal ka1 ka2 kd kf
          go_wp2_with fail
          obtain ⟨kr, kp, kc, km, ke0, ke1, ke2, kal, ka1, ka2, kd, kf⟩ := HKS.out
          exact hN _ _ (fun _ => hst.out.sub.sub) ⟨A2, c2, g, V, O, E, xr, xp, xc, .tuple #[.agg (bv V), .bool O, .int .i64 E], .agg (bv V), xe1, xe2, xal, xa1, xa2, (by go_simp), kr, kp, kc, fun _ => rfl, fun _ => rfl, ke1, ke2, kal, ka1, ka2, fun h => absurd (show done 14 = false from h) (by rw [hdc]; decide), kf, hst.out⟩
        · refine ⟨_, rfl, fun N hN => ?_⟩
          replace hst := hid hst
          have hdc : done 14 = true := by cases hc : done 14 with | true => rfl | false => have h3 := kd hc; rw [h2 15 (by simp)] at h3; simp at h3
          obtain rfl := km (h2 15 (by simp))
          have HKS := hid (show _ ∧ _ ∧ _ ∧ _ ∧ _ ∧ _ ∧ _ ∧ _ ∧ _ ∧ _ ∧ _ ∧ _ from ⟨kr, kp, kc, km, ke0, ke1, ke2, kal, ka1, ka2, kd, kf⟩)
          clear kr kp kc km ke0 ke1 ke2 kal ka1 ka2 kd kf
          go_wp2_with fail
          obtain ⟨kr, kp, kc, km, ke0, ke1, ke2, kal, ka1, ka2, kd, kf⟩ := HKS.out
          exact hN _ _ (fun _ => hst.out.sub.sub) ⟨A2, c2, g, V, O, E, xr, xp, xc, .tuple #[.agg (bv V), .bool O, .int .i64 E], xe0, .bool O, xe2, xal, xa1, xa2, (by go_simp), kr, kp, kc, fun _ => rfl, ke0, fun _ => rfl, ke2, kal, ka1, ka2, fun h => absurd (show done 14 = false from h) (by rw [hdc]; decide), kf, hst.out⟩
        · refine ⟨_, rfl, fun N hN => ?_⟩
          replace hst := hid hst
          have hdc : done 14 = true := by cases hc : done 14 with | true => rfl | false => have h3 := kd hc; rw [h2 15 (by simp)] at h3; simp at h3
          obtain rfl := km (h2 15 (by simp))
          have HKS := hid (show _ ∧ _ ∧ _ ∧ _ ∧ _ ∧ _ ∧ _ ∧ _ ∧ _ ∧ _ ∧ _ ∧ _ from ⟨kr, kp, kc, km, ke0, ke1, ke2, kal, ka1, ka2, kd, kf⟩)
          clear kr kp kc km ke0 ke1 ke2 kal ka1 ka2 kd kf
          go_wp2_with fail
          obtain ⟨kr, kp, kc, km, ke0, ke1, ke2, kal, ka1, ka2, kd, kf⟩ := HKS.out
          exact hN _ _ (fun _ => hst.out.sub.sub) ⟨A2, c2, g, V, O, E, xr, xp, xc, .tuple #[.agg (bv V), .bool O, .int .i64 E], xe0, xe1, .int .i64 E, xal, xa1, xa2, (by go_simp), kr, kp, kc, fun _ => rfl, ke0, ke1, fun _ => rfl, kal, ka1, ka2, fun h => absurd (show done 14 = false from h) (by rw [hdc]; decide), kf, hst.out⟩
        · refine ⟨_, rfl, fun N hN => ?_⟩
          replace hst := hid hst
          have HKS := hid (show _ ∧ _ ∧ _ ∧ _ ∧ _ ∧ _ ∧ _ ∧ _ ∧ _ ∧ _ ∧ _ ∧ _ from ⟨kr, kp, kc, km, ke0, ke1, ke2, kal, ka1, ka2, kd, kf⟩)
          clear kr kp kc km ke0 ke1 ke2 kal ka1 ka2 kd kf
          go_wp2_with (refine wpList_alloc 23 rfl rfl (.agg (bv (List.replicate 32 0))) zero54s ?_; intro g3 Xs h3 hl3 hg3 hb; have hst4 := hid (hst.out.newBlk hb hg3 h3); have hbb := hid hb; clear h3 hl3 hg3 hb)
          obtain ⟨kr, kp, kc, km, ke0, ke1, ke2, kal, ka1, ka2, kd, kf⟩ := HKS.out
          have d5 := kf h1
          have hst5 := hst4.out
          rw [h1] at hst5
          exact hN _ _ (fun _ => (hst.out.turn hbb.out).sub.sub) ⟨A2, c2, g3, V, O, E, xr, xp, xc, xm, xe0, xe1, xe2, .pointer (some ⟨g3, 0, none⟩), xa1, xa2, (by go_simp), kr, kp, kc, km, ke0, ke1, ke2, fun _ => rfl, ka1, ka2, kd, fun h => (by cases h), (by show St w (flg (done 13) (Row (.slice A2 n2 c2) 23 32 n2 (sumsV ss2)) ++ (flg (true) (Blk g3 (bv (bif done 20 then V else List.replicate 32 0)) 23) ++ [TreeA (.pointer p2) t2, Blk g8 (proofC (.slice Ap n cp) th (leafC x y)) 32, Row (.slice Ap n cp) 23 32 n (sumsV ss), Blk g7 (bv rs) 23, Row (.slice (some ⟨gB, 0, none⟩) m d) 30 64 m (leavesV lt), Blk gk (bv k) 24])) Xs; rw [d5]; exact hst5.unmid)⟩
        · refine ⟨_, rfl, fun N hN => ?_⟩
          replace hst := hid hst
          have hdc : done 14 = true := by cases hc : done 14 with | true => rfl | false => have h3 := kd hc; rw [h2 16 (by simp)] at h3; simp at h3
          obtain rfl := kal (h2 19 (by simp))
          obtain rfl := ke0 (h2 16 (by simp))
          have HKS := hid (show _ ∧ _ ∧ _ ∧ _ ∧ _ ∧ _ ∧ _ ∧ _ ∧ _ ∧ _ ∧ _ ∧ _ from ⟨kr, kp, kc, km, ke0, ke1, ke2, kal, ka1, ka2, kd, kf⟩)
          have hVZ := hid (show (bv V).size = 32 by rw [bv_size]; exact (kc hdc).2.1)
          have hst2 := hst.out
          rw [h1, h2 19 (by simp)] at hst2
          replace hst2 := hid (show St w (Blk g (bv (List.replicate 32 0)) 23 :: (flg (done 13) (Row (.slice A2 n2 c2) 23 32 n2 (sumsV ss2)) ++ [TreeA (.pointer p2) t2, Blk g8 (proofC (.slice Ap n cp) th (leafC x y)) 32, Row (.slice Ap n cp) 23 32 n (sumsV ss), Blk g7 (bv rs) 23, Row (.slice (some ⟨gB, 0, none⟩) m d) 30 64 m (leavesV lt), Blk gk (bv k) 24])) _ from (St.mid hst2))
          clear kr kp kc km ke0 ke1 ke2 kal ka1 ka2 kd kf
          go_wp2_with (refine wpList_store_box 23 _ _ rfl g (by simp [Act.eval, Act.put]) rfl (bv V) (by simp [Act.eval, Act.put]) 32 size54s hVZ.out (bv_one _) 23 _ hst2.out.blk HZ32.out ?_; intro Xs hB7 hT7 hs7; have hst3 := hid (hst2.out.put hB7 hT7); clear hB7 hT7 hs7)
          obtain ⟨kr, kp, kc, km, ke0, ke1, ke2, kal, ka1, ka2, kd, kf⟩ := HKS.out
          exact hN _ _ (fun _ => hst3.out.drop.sub) ⟨A2, c2, g, V, O, E, xr, xp, xc, xm, .agg (bv V), xe1, xe2, .pointer (some ⟨g, 0, none⟩), xa1, xa2, (by go_simp), kr, kp, kc, km, fun _ => rfl, ke1, ke2, fun _ => rfl, ka1, ka2, fun h => absurd (show done 14 = false from h) (by rw [hdc]; decide), fun h => absurd (show done 19 = false from h) (by rw [h2 19 (by simp)]; decide), (by show St w (flg (done 13) (Row (.slice A2 n2 c2) 23 32 n2 (sumsV ss2)) ++ (flg (done 19) (Blk g (bv (bif true then V else List.replicate 32 0)) 23) ++ [TreeA (.pointer p2) t2, Blk g8 (proofC (.slice Ap n cp) th (leafC x y)) 32, Row (.slice Ap n cp) 23 32 n (sumsV ss), Blk g7 (bv rs) 23, Row (.slice (some ⟨gB, 0, none⟩) m d) 30 64 m (leavesV lt), Blk gk (bv k) 24])) Xs; rw [h2 19 (by simp)]; exact hst3.out.unmid)⟩
        · refine ⟨_, rfl, fun N hN => ?_⟩
          replace hst := hid hst
          have hdc : done 14 = true := by cases hc : done 14 with | true => rfl | false => have h3 := kd hc; rw [h2 17 (by simp)] at h3; simp at h3
          obtain rfl := ke1 (h2 17 (by simp))
          have HKS := hid (show _ ∧ _ ∧ _ ∧ _ ∧ _ ∧ _ ∧ _ ∧ _ ∧ _ ∧ _ ∧ _ ∧ _ from ⟨kr, kp, kc, km, ke0, ke1, ke2, kal, ka1, ka2, kd, kf⟩)
          clear kr kp kc km ke0 ke1 ke2 kal ka1 ka2 kd kf
          go_wp2_with fail
          obtain ⟨kr, kp, kc, km, ke0, ke1, ke2, kal, ka1, ka2, kd, kf⟩ := HKS.out
          exact hN _ _ (fun _ => hst.out.sub.sub) ⟨A2, c2, g, V, O, E, xr, xp, xc, xm, xe0, .bool O, xe2, xal, .bool O, xa2, (by go_simp), kr, kp, kc, km, ke0, fun _ => rfl, ke2, kal, fun _ => rfl, ka2, fun h => absurd (show done 14 = false from h) (by rw [hdc]; decide), kf, hst.out⟩
        · refine ⟨_, rfl, fun N hN => ?_⟩
          replace hst := hid hst
          have hdc : done 14 = true := by cases hc : done 14 with | true => rfl | false => have h3 := kd hc; rw [h2 18 (by simp)] at h3; simp at h3
          obtain rfl := ke2 (h2 18 (by simp))
          have HKS := hid (show _ ∧ _ ∧ _ ∧ _ ∧ _ ∧ _ ∧ _ ∧ _ ∧ _ ∧ _ ∧ _ ∧ _ from ⟨kr, kp, kc, km, ke0, ke1, ke2, kal, ka1, ka2, kd, kf⟩)
          clear kr kp kc km ke0 ke1 ke2 kal ka1 ka2 kd kf
          go_wp2_with fail
          obtain ⟨kr, kp, kc, km, ke0, ke1, ke2, kal, ka1, ka2, kd, kf⟩ := HKS.out
          exact hN _ _ (fun _ => hst.out.sub.sub) ⟨A2, c2, g, V, O, E, xr, xp, xc, xm, xe0, xe1, .int .i64 E, xal, xa1, .int .i64 E, (by go_simp), kr, kp, kc, km, ke0, ke1, fun _ => rfl, kal, ka1, fun _ => rfl, fun h => absurd (show done 14 = false from h) (by rw [hdc]; decide), kf, hst.out⟩
      · rintro done a' w' hd ⟨A2, c2, g, V, O, E, xr, xp, xc, xm, xe0, xe1, xe2, xal, xa1, xa2, rfl, kr, kp, kc, km, ke0, ke1, ke2, kal, ka1, ka2, kd, kf, hst⟩
        obtain rfl := kr (hd (1, []) (by simp))
        obtain rfl := kp (hd (13, [1]) (by simp))
        obtain ⟨rfl, hV, hC⟩ := kc (hd (14, [1, 13]) (by simp))
        obtain rfl := km (hd (15, [14]) (by simp))
        obtain rfl := ke0 (hd (16, [15]) (by simp))
        obtain rfl := ke1 (hd (17, [15]) (by simp))
        obtain rfl := ke2 (hd (18, [15]) (by simp))
        obtain rfl := kal (hd (19, []) (by simp))
        obtain rfl := ka1 (hd (21, [17, 20]) (by simp))
        obtain rfl := ka2 (hd (22, [18, 21]) (by simp))
        rw [hd (13, [1]) (by simp), hd (19, []) (by simp), hd (20, [16, 19]) (by simp)] at hst
        have HV := hid hV
        have HC := hid hC
        have H11 := hid hst
        clear kr kp kc km ke0 ke1 ke2 kal ka1 ka2 kd kf hd hs hV hC hst
        refine hF2 _ _ (wpSegs_nil ?_)
        clear hF2 F2
        obtain ⟨hE, hO, hV⟩ := HC.out
        clear HC
        subst hE hO
        have hV' := hV.symm
        subst hV'
        clear hV
        have H12 := hid (show St w (Blk g (bv lv) 23 :: [TreeA (.pointer p2) t2, Blk g8 (proofC (.slice Ap n cp) th (leafC x y)) 32, Row (.slice Ap n cp) 23 32 n (sumsV ss), Blk g7 (bv rs) 23, Row (.slice (some ⟨gB, 0, none⟩) m d) 30 64 m (leavesV lt), Blk gk (bv k) 24]) _ from St.drop H11.out)
        have HC10 := hid (fun (X : World) (hX : St w (Blk g (bv lv) 23 :: [TreeA (.pointer p2) t2, Blk g8 (proofC (.slice Ap n cp) th (leafC x y)) 32, Row (.slice Ap n cp) 23 32 n (sumsV ss), Blk g7 (bv rs) 23, Row (.slice (some ⟨gB, 0, none⟩) m d) 30 64 m (leavesV lt), Blk gk (bv k) 24]) X) => And.intro (run_loadK_box (P := Tryd.prog) hX.blk Tryd.underlying23 rfl size54s ((bv_size lv).trans HP32.out.2)) ((HLL.out X _ hX.drop.at5).2.2))
        have CM := fun (p q : Operand) (W : World) => (run_cmpK_neq (P := Tryd.prog) guardSum Tryd.underlying23 be5 cellsK HP32.out.2 HP32.out.2 p q W).trans (show _ = .ok (.value (.bool false)) W by simp)
        have HL7 := hid (fun (X : World) (hX : St w [Row (.slice Ap n cp) 23 32 n (sumsV ss), TreeA (.pointer p2) t2, Blk g8 (proofC (.slice Ap n cp) th (leafC x y)) 32, Blk g7 (bv rs) 23, Row (.slice (some ⟨gB, 0, none⟩) m d) 30 64 m (leavesV lt), Blk gk (bv k) 24] X) => And.intro (HK.out gk X hX.drop.at5.blk) (And.intro (run_loadK_box (P := Tryd.prog) hX.at3.blk Tryd.underlying32 rfl sizeProof (HPS2.out _ _)) (run_loadK_box (P := Tryd.prog) hX.at4.blk Tryd.underlying23 rfl size54s HRZ.out)))
        have HCK1 := hid (fun (X : World) (M : List Atm) (A : Option Addr) (c : Nat) (hX : St w (Row (.slice A n c) 23 32 n (sumsV ss) :: M) X) => (check_at hX HG.out HRL.out HKL.out HS.out HN.out).mono fun (e : Ending) (w' : World) ⟨V, O, E, h1, h2, h3, h4⟩ => show ∃ (V : List UInt8) (O : Bool), e = Ending.returned (.tuple #[.agg (bv V), .bool O, .int .i64 0]) ∧ V.length = 32 ∧ St w (Row (.slice A n c) 23 32 n (sumsV ss) :: M) w' from ⟨V, O, by rw [h1, (h3 HRS.out.symm).1], h2, h4⟩)
        have HCK3 := hid (fun (X : World) (M : List Atm) (A : Option Addr) (c : Nat) (hX : St w (Row (.slice A n c) 23 32 n (sumsV ss) :: M) X) => (check_at hX HG.out HRTL.out HKL.out HS.out HN.out).mono fun (e : Ending) (w' : World) ⟨V, O, E, h1, h2, h3, h4⟩ => show ∃ (V : List UInt8) (O : Bool) (E : Int), e = Ending.returned (.tuple #[.agg (bv V), .bool O, .int .i64 E]) ∧ V.length = 32 ∧ (rs = rt → E = 0) ∧ St w (Row (.slice A n c) 23 32 n (sumsV ss) :: M) w' from ⟨V, O, E, h1, h2, fun e => (h3 (HRS.out.symm.trans e)).1, h4⟩)
        have HRO3 := hid (fun (X : World) (hX : St w [Row (.slice Ap n cp) 23 32 n (sumsV ss), TreeA (.pointer p2) t2, Blk g8 (proofC (.slice Ap n cp) th (leafC x y)) 32, Blk g7 (bv rs) 23, Row (.slice (some ⟨gB, 0, none⟩) m d) 30 64 m (leavesV lt), Blk gk (bv k) 24] X) => root_at hX.at2 HG.out)
        rw [← HRT.out] at HRO3
        clear H11 HRO2 HPV2 HCK2 HPU HPV HRO
        go_upto_region 10 with fail
        refine wp_region_segs [.ord [(0, 1), (1, 1), (2, 1), (3, 1), (4, 1), (5, 1), (6, 1), (7, 1), (8, 1), (9, 1), (10, 1), (11, 1), (12, 1), (13, 1), (14, 1)]] (fun X => St w (Blk g (bv lv) 23 :: [TreeA (.pointer p2) t2, Blk g8 (proofC (.slice Ap n cp) th (leafC x y)) 32, Row (.slice Ap n cp) 23 32 n (sumsV ss), Blk g7 (bv rs) 23, Row (.slice (some ⟨gB, 0, none⟩) m d) 30 64 m (leavesV lt), Blk gk (bv k) 24]) X) (by kernel_rfl) (by kernel_rfl) (fun d _ c _ _ h => by cases d <;> exact h) (H12.out.turn (Below.drew (Below.refl _ _))) (fun X hXe hX => ?_)
        have H13 := H12.out.turn (Below.drew (Below.refl _ _))
        rw [← hXe] at H13
        replace H13 := hid H13
        clear hXe
        refine wpSegs_ord fun F1 hF1 => ?_
        clear hX H12
        iterate 15 (apply wpOrd_class; ((· first | (rw [List.getElem?_toArray, List.getElem?_cons_zero]; done) | (simp only [List.getElem?_toArray, List.getElem?_cons_succ, List.getElem?_cons_zero]; exact rfl))); (· exact rfl); intro K hK; apply Exists.intro; refine And.intro (fun X' hX' => ?_) ?_; (· obtain ⟨hq1, hq2⟩ := HC10.out _ hX'; clear hX'; go_simp; (try go_bits); first | done | exact rfl | exact ⟨rfl, rfl⟩); go_simp; refine hK _ _ ?_; clear hK K)
        refine wpOrd_to (hF1 _ _ (wpSegs_nil ?_))
        clear hF1 F1
        clear CM HC10
        have H14 := hid (show St w [Row (.slice Ap n cp) 23 32 n (sumsV ss), TreeA (.pointer p2) t2, Blk g8 (proofC (.slice Ap n cp) th (leafC x y)) 32, Blk g7 (bv rs) 23, Row (.slice (some ⟨gB, 0, none⟩) m d) 30 64 m (leavesV lt), Blk gk (bv k) 24] _ from H13.out.drop.at3)
        clear H13
        obtain ⟨l1, l2, l3⟩ := HL7.out _ H14.out
        go_upto_region 13 with (first | (go_at_call 10; (with_reducible refine (HCK1.out _ _ _ _ H14.out).mono ?_); rintro r w3 ⟨V1, O1, rfl, hV1, hst⟩; have H15 := hid hst; have HV1 := hid (show (bv V1).size = 32 by rw [bv_size]; exact hV1); clear hst hV1 l1 l2 l3) | (refine wpList_alloc 23 rfl rfl (.agg (bv (List.replicate 32 0))) zero54s ?_; intro g12 W1 h1 hl1 hg1 hW1; have H16 := hid (H15.out.newBlk hW1 hg1 h1); clear h1 hl1 hg1 hW1) | (refine wpList_store_box 23 _ _ rfl g12 rfl rfl (bv V1) rfl 32 size54s HV1.out (bv_one _) 23 _ H16.out.blk HZ32.out ?_; intro Xs hB7 hT7 hs7; have H17 := hid ((H16.out.put hB7 hT7).drop); clear hB7 hT7 hs7))
        clear H14 H15 H16
        have HC13 := hid (fun (X : World) (hX : St w [Row (.slice Ap n cp) 23 32 n (sumsV ss), TreeA (.pointer p2) t2, Blk g8 (proofC (.slice Ap n cp) th (leafC x y)) 32, Blk g7 (bv rs) 23, Row (.slice (some ⟨gB, 0, none⟩) m d) 30 64 m (leavesV lt), Blk gk (bv k) 24] X) => And.intro (HL7.out X hX).1 (HL7.out X hX).2.1)
        refine wp_region_segs [.ord [(0, 1), (2, 1), (3, 1)], .blk [(1, []), (4, [1]), (5, [4]), (6, [5]), (7, [5]), (8, [5]), (9, []), (10, [6, 9]), (11, [7, 10]), (12, [8, 11])]] (fun X => St w [Row (.slice Ap n cp) 23 32 n (sumsV ss), TreeA (.pointer p2) t2, Blk g8 (proofC (.slice Ap n cp) th (leafC x y)) 32, Blk g7 (bv rs) 23, Row (.slice (some ⟨gB, 0, none⟩) m d) 30 64 m (leavesV lt), Blk gk (bv k) 24] X) (by kernel_rfl) (by kernel_rfl) (fun d _ c _ _ h => by cases d <;> exact h) (H17.out.turn (Below.drew (Below.refl _ _))) (fun X hXe hX => ?_)
        have H18 := H17.out.turn (Below.drew (Below.refl _ _))
        rw [← hXe] at H18
        replace H18 := hid H18
        clear hXe
        refine wpSegs_ord fun F1 hF1 => ?_
        clear hX H17
        iterate 3 (apply wpOrd_class; ((· first | (rw [List.getElem?_toArray, List.getElem?_cons_zero]; done) | (simp only [List.getElem?_toArray, List.getElem?_cons_succ, List.getElem?_cons_zero]; exact rfl))); (· exact rfl); intro K hK; apply Exists.intro; refine And.intro (fun X' hX' => ?_) ?_; (· obtain ⟨hq1, hq2⟩ := HC13.out _ hX'; clear hX'; go_simp; (try go_bits); first | done | exact rfl | exact ⟨rfl, rfl⟩); go_simp; refine hK _ _ ?_; clear hK K)
        have hs := H18.out
        refine wpOrd_to (hF1 _ _ ?_)
        clear hF1 F1
        refine wpSegs_blk fun F2 hF2 => ?_
        refine bulk_intro (fun a0 done a' w' => ∃ (A2 : Option Addr) (c2 g : Nat) (V : List UInt8) (O : Bool) (E : Int) (xr xc xm xe0 xe1 xe2 xal xa1 xa2 : Value), a' = (((((((((a0.put (some 87) xr).put (some 90) xc).put (some 85) xm).put (some 91) xe0).put (some 92) xe1).put (some 93) xe2).put (some 15) xal).put (some 16) xa1).put (some 17) xa2) ∧ (done 1 = true → xr = .agg (bv rt)) ∧ (done 4 = true → xc = .tuple #[.agg (bv V), .bool O, .int .i64 E] ∧ V.length = 32 ∧ (rs = rt → E = 0)) ∧ (done 5 = true → xm = .tuple #[.agg (bv V), .bool O, .int .i64 E]) ∧ (done 6 = true → xe0 = .agg (bv V)) ∧ (done 7 = true → xe1 = .bool O) ∧ (done 8 = true → xe2 = .int .i64 E) ∧ (done 9 = true → xal = .pointer (some ⟨g, 0, none⟩)) ∧ (done 11 = true → xa1 = .bool O) ∧ (done 12 = true → xa2 = .int .i64 E) ∧ (done 4 = false → done 5 = false ∧ done 6 = false ∧ done 7 = false ∧ done 8 = false ∧ done 10 = false ∧ done 11 = false ∧ done 12 = false) ∧ (done 9 = false → done 10 = false) ∧ St w (flg (done 9) (Blk g (bv (bif done 10 then V else List.replicate 32 0)) 23) ++ [Row (.slice Ap n cp) 23 32 n (sumsV ss), TreeA (.pointer p2) t2, Blk g8 (proofC (.slice Ap n cp) th (leafC x y)) 32, Blk g7 (bv rs) 23, Row (.slice (some ⟨gB, 0, none⟩) m d) 30 64 m (leavesV lt), Blk gk (bv k) 24]) w') ?_ ?_ ?_
        · intro done hd
          have dr := hd (1, []) (by simp)
          have dc := hd (4, [1]) (by simp)
          have dm := hd (5, [4]) (by simp)
          have de0 := hd (6, [5]) (by simp)
          have de1 := hd (7, [5]) (by simp)
          have de2 := hd (8, [5]) (by simp)
          have dal := hd (9, []) (by simp)
          have dst := hd (10, [6, 9]) (by simp)
          have da1 := hd (11, [7, 10]) (by simp)
          have da2 := hd (12, [8, 11]) (by simp)
          refine exists_put9 (i0 := 87) (i1 := 90) (i2 := 85) (i3 := 91) (i4 := 92) (i5 := 93) (i6 := 15) (i7 := 16) (i8 := 17) fun xr xc xm xe0 xe1 xe2 xal xa1 xa2 e => ⟨none, 0, 0, [], false, 0, xr, xc, xm, xe0, xe1, xe2, xal, xa1, xa2, e, fun h => (by rw [dr] at h; cases h), fun h => (by rw [dc] at h; cases h), fun h => (by rw [dm] at h; cases h), fun h => (by rw [de0] at h; cases h), fun h => (by rw [de1] at h; cases h), fun h => (by rw [de2] at h; cases h), fun h => (by rw [dal] at h; cases h), fun h => (by rw [da1] at h; cases h), fun h => (by rw [da2] at h; cases h), fun _ => ⟨dm, de0, de1, de2, dst, da1, da2⟩, fun _ => dst, by rw [dal]; exact hs⟩
        · rintro p hp done a' w' h1 h2 ⟨A2, c2, g, V, O, E, xr, xc, xm, xe0, xe1, xe2, xal, xa1, xa2, rfl, kr, kc, km, ke0, ke1, ke2, kal, ka1, ka2, kd, kf, hst⟩
          clear hs
          simp only [List.mem_cons, List.not_mem_nil, or_false] at hp
          rcases hp with rfl | rfl | rfl | rfl | rfl | rfl | rfl | rfl | rfl | rfl
          · refine ⟨_, rfl, fun N hN => ?_⟩
            replace hst := hid hst
            have HKS := hid (show _ ∧ _ ∧ _ ∧ _ ∧ _ ∧ _ ∧ _ ∧ _ ∧ _ ∧ _ ∧ _ from ⟨kr, kc, km, ke0, ke1, ke2, kal, ka1, ka2, kd, kf⟩)
            clear kr kc km ke0 ke1 ke2 kal ka1 ka2 kd kf
            go_wp2_with (go_at_call 7; (with_reducible refine (HRO3.out _ hst.out.sub).mono ?_); rintro r Xs ⟨rfl, hb⟩)
            obtain ⟨kr, kc, km, ke0, ke1, ke2, kal, ka1, ka2, kd, kf⟩ := HKS.out
            exact hN _ _ (fun _ => (hst.out.turn hb).sub) ⟨A2, c2, g, V, O, E, .agg (bv rt), xc, xm, xe0, xe1, xe2, xal, xa1, xa2, (by go_simp), fun _ => rfl, kc, km, ke0, ke1, ke2, kal, ka1, ka2, kd, kf, hst.out.turn hb⟩
          · refine ⟨_, rfl, fun N hN => ?_⟩
            replace hst := hid hst
            obtain rfl := kr (h2 1 (by simp))
            have HKS := hid (show _ ∧ _ ∧ _ ∧ _ ∧ _ ∧ _ ∧ _ ∧ _ ∧ _ ∧ _ ∧ _ from ⟨kr, kc, km, ke0, ke1, ke2, kal, ka1, ka2, kd, kf⟩)
            have hst2 := hid hst.out.mid
            clear kr kc km ke0 ke1 ke2 kal ka1 ka2 kd kf
            go_wp2_with (go_at_call 10; (with_reducible refine (HCK3.out _ _ _ _ hst2.out).mono ?_); rintro r Xs ⟨V2, O2, E2, rfl, hV2, hC2, hst3⟩)
            obtain ⟨kr, kc, km, ke0, ke1, ke2, kal, ka1, ka2, kd, kf⟩ := HKS.out
            obtain ⟨d1, d2, d3, d4, d5, d6, d7⟩ := kd h1
            have hst4 := hst3.unmid
            rw [d5] at hst4
            exact hN _ _ (fun _ => hst4.sub) ⟨A2, c2, g, V2, O2, E2, .agg (bv rt), .tuple #[.agg (bv V2), .bool O2, .int .i64 E2], xm, xe0, xe1, xe2, xal, xa1, xa2, (by go_simp), fun _ => rfl, fun _ => ⟨rfl, hV2, hC2⟩, fun h => absurd (show done 5 = true from h) (by rw [d1]; decide), fun h => absurd (show done 6 = true from h) (by rw [d2]; decide), fun h => absurd (show done 7 = true from h) (by rw [d3]; decide), fun h => absurd (show done 8 = true from h) (by rw [d4]; decide), kal, fun h => absurd (show done 11 = true from h) (by rw [d6]; decide), fun h => absurd (show done 12 = true from h) (by rw [d7]; decide), fun h => (by cases h), kf, (by show St w (flg (done 9) (Blk g (bv (bif done 10 then V2 else List.replicate 32 0)) 23) ++ [Row (.slice Ap n cp) 23 32 n (sumsV ss), TreeA (.pointer p2) t2, Blk g8 (proofC (.slice Ap n cp) th (leafC x y)) 32, Blk g7 (bv rs) 23, Row (.slice (some ⟨gB, 0, none⟩) m d) 30 64 m (leavesV lt), Blk gk (bv k) 24]) Xs; rw [d5]; exact hst4)⟩
          · refine ⟨_, rfl, fun N hN => ?_⟩
            replace hst := hid hst
            have hdc := h2 4 (by simp)
            obtain ⟨rfl, _, _⟩ := kc (h2 4 (by simp))
            have HKS := hid (show _ ∧ _ ∧ _ ∧ _ ∧ _ ∧ _ ∧ _ ∧ _ ∧ _ ∧ _ ∧ _ from ⟨kr, kc, km, ke0, ke1, ke2, kal, ka1, ka2, kd, kf⟩)
            clear kr kc km ke0 ke1 ke2 kal ka1 ka2 kd kf
            go_wp2_with fail
            obtain ⟨kr, kc, km, ke0, ke1, ke2, kal, ka1, ka2, kd, kf⟩ := HKS.out
            exact hN _ _ (fun _ => hst.out.sub) ⟨A2, c2, g, V, O, E, xr, .tuple #[.agg (bv V), .bool O, .int .i64 E], .tuple #[.agg (bv V), .bool O, .int .i64 E], xe0, xe1, xe2, xal, xa1, xa2, (by go_simp), kr, fun h => ⟨rfl, (kc h).2⟩, fun _ => rfl, ke0, ke1, ke2, kal, ka1, ka2, fun h => absurd (show done 4 = false from h) (by rw [hdc]; decide), kf, hst.out⟩
          · refine ⟨_, rfl, fun N hN => ?_⟩
            replace hst := hid hst
            have hdc : done 4 = true := by cases hc : done 4 with | true => rfl | false => have h3 := kd hc; rw [h2 5 (by simp)] at h3; simp at h3
            obtain rfl := km (h2 5 (by simp))
            have HKS := hid (show _ ∧ _ ∧ _ ∧ _ ∧ _ ∧ _ ∧ _ ∧ _ ∧ _ ∧ _ ∧ _ from ⟨kr, kc, km, ke0, ke1, ke2, kal, ka1, ka2, kd, kf⟩)
            clear kr kc km ke0 ke1 ke2 kal ka1 ka2 kd kf
            go_wp2_with fail
            obtain ⟨kr, kc, km, ke0, ke1, ke2, kal, ka1, ka2, kd, kf⟩ := HKS.out
            exact hN _ _ (fun _ => hst.out.sub) ⟨A2, c2, g, V, O, E, xr, xc, .tuple #[.agg (bv V), .bool O, .int .i64 E], .agg (bv V), xe1, xe2, xal, xa1, xa2, (by go_simp), kr, kc, fun _ => rfl, fun _ => rfl, ke1, ke2, kal, ka1, ka2, fun h => absurd (show done 4 = false from h) (by rw [hdc]; decide), kf, hst.out⟩
          · refine ⟨_, rfl, fun N hN => ?_⟩
            replace hst := hid hst
            have hdc : done 4 = true := by cases hc : done 4 with | true => rfl | false => have h3 := kd hc; rw [h2 5 (by simp)] at h3; simp at h3
            obtain rfl := km (h2 5 (by simp))
            have HKS := hid (show _ ∧ _ ∧ _ ∧ _ ∧ _ ∧ _ ∧ _ ∧ _ ∧ _ ∧ _ ∧ _ from ⟨kr, kc, km, ke0, ke1, ke2, kal, ka1, ka2, kd, kf⟩)
            clear kr kc km ke0 ke1 ke2 kal ka1 ka2 kd kf
            go_wp2_with fail
            obtain ⟨kr, kc, km, ke0, ke1, ke2, kal, ka1, ka2, kd, kf⟩ := HKS.out
            exact hN _ _ (fun _ => hst.out.sub) ⟨A2, c2, g, V, O, E, xr, xc, .tuple #[.agg (bv V), .bool O, .int .i64 E], xe0, .bool O, xe2, xal, xa1, xa2, (by go_simp), kr, kc, fun _ => rfl, ke0, fun _ => rfl, ke2, kal, ka1, ka2, fun h => absurd (show done 4 = false from h) (by rw [hdc]; decide), kf, hst.out⟩
          · refine ⟨_, rfl, fun N hN => ?_⟩
            replace hst := hid hst
            have hdc : done 4 = true := by cases hc : done 4 with | true => rfl | false => have h3 := kd hc; rw [h2 5 (by simp)] at h3; simp at h3
            obtain rfl := km (h2 5 (by simp))
            have HKS := hid (show _ ∧ _ ∧ _ ∧ _ ∧ _ ∧ _ ∧ _ ∧ _ ∧ _ ∧ _ ∧ _ from ⟨kr, kc, km, ke0, ke1, ke2, kal, ka1, ka2, kd, kf⟩)
            clear kr kc km ke0 ke1 ke2 kal ka1 ka2 kd kf
            go_wp2_with fail
            obtain ⟨kr, kc, km, ke0, ke1, ke2, kal, ka1, ka2, kd, kf⟩ := HKS.out
            exact hN _ _ (fun _ => hst.out.sub) ⟨A2, c2, g, V, O, E, xr, xc, .tuple #[.agg (bv V), .bool O, .int .i64 E], xe0, xe1, .int .i64 E, xal, xa1, xa2, (by go_simp), kr, kc, fun _ => rfl, ke0, ke1, fun _ => rfl, kal, ka1, ka2, fun h => absurd (show done 4 = false from h) (by rw [hdc]; decide), kf, hst.out⟩
          · refine ⟨_, rfl, fun N hN => ?_⟩
            replace hst := hid hst
            have HKS := hid (show _ ∧ _ ∧ _ ∧ _ ∧ _ ∧ _ ∧ _ ∧ _ ∧ _ ∧ _ ∧ _ from ⟨kr, kc, km, ke0, ke1, ke2, kal, ka1, ka2, kd, kf⟩)
            clear kr kc km ke0 ke1 ke2 kal ka1 ka2 kd kf
            go_wp2_with (refine wpList_alloc 23 rfl rfl (.agg (bv (List.replicate 32 0))) zero54s ?_; intro g3 Xs h3 hl3 hg3 hb; have hst4 := hid (hst.out.newBlk hb hg3 h3); have hbb := hid hb; clear h3 hl3 hg3 hb)
            obtain ⟨kr, kc, km, ke0, ke1, ke2, kal, ka1, ka2, kd, kf⟩ := HKS.out
            have d5 := kf h1
            have hst5 := hst4.out
            rw [h1] at hst5
            exact hN _ _ (fun _ => (hst.out.turn hbb.out).sub) ⟨A2, c2, g3, V, O, E, xr, xc, xm, xe0, xe1, xe2, .pointer (some ⟨g3, 0, none⟩), xa1, xa2, (by go_simp), kr, kc, km, ke0, ke1, ke2, fun _ => rfl, ka1, ka2, kd, fun h => (by cases h), (by show St w (flg (true) (Blk g3 (bv (bif done 10 then V else List.replicate 32 0)) 23) ++ [Row (.slice Ap n cp) 23 32 n (sumsV ss), TreeA (.pointer p2) t2, Blk g8 (proofC (.slice Ap n cp) th (leafC x y)) 32, Blk g7 (bv rs) 23, Row (.slice (some ⟨gB, 0, none⟩) m d) 30 64 m (leavesV lt), Blk gk (bv k) 24]) Xs; rw [d5]; exact hst5)⟩
          · refine ⟨_, rfl, fun N hN => ?_⟩
            replace hst := hid hst
            have hdc : done 4 = true := by cases hc : done 4 with | true => rfl | false => have h3 := kd hc; rw [h2 6 (by simp)] at h3; simp at h3
            obtain rfl := kal (h2 9 (by simp))
            obtain rfl := ke0 (h2 6 (by simp))
            have HKS := hid (show _ ∧ _ ∧ _ ∧ _ ∧ _ ∧ _ ∧ _ ∧ _ ∧ _ ∧ _ ∧ _ from ⟨kr, kc, km, ke0, ke1, ke2, kal, ka1, ka2, kd, kf⟩)
            have hVZ := hid (show (bv V).size = 32 by rw [bv_size]; exact (kc hdc).2.1)
            have hst2 := hst.out
            rw [h1, h2 9 (by simp)] at hst2
            replace hst2 := hid (show St w (Blk g (bv (List.replicate 32 0)) 23 :: [Row (.slice Ap n cp) 23 32 n (sumsV ss), TreeA (.pointer p2) t2, Blk g8 (proofC (.slice Ap n cp) th (leafC x y)) 32, Blk g7 (bv rs) 23, Row (.slice (some ⟨gB, 0, none⟩) m d) 30 64 m (leavesV lt), Blk gk (bv k) 24]) _ from hst2)
            clear kr kc km ke0 ke1 ke2 kal ka1 ka2 kd kf
            go_wp2_with (refine wpList_store_box 23 _ _ rfl g (by simp [Act.eval, Act.put]) rfl (bv V) (by simp [Act.eval, Act.put]) 32 size54s hVZ.out (bv_one _) 23 _ hst2.out.blk HZ32.out ?_; intro Xs hB7 hT7 hs7; have hst3 := hid (hst2.out.put hB7 hT7); clear hB7 hT7 hs7)
            obtain ⟨kr, kc, km, ke0, ke1, ke2, kal, ka1, ka2, kd, kf⟩ := HKS.out
            exact hN _ _ (fun _ => hst3.out.drop) ⟨A2, c2, g, V, O, E, xr, xc, xm, .agg (bv V), xe1, xe2, .pointer (some ⟨g, 0, none⟩), xa1, xa2, (by go_simp), kr, kc, km, fun _ => rfl, ke1, ke2, fun _ => rfl, ka1, ka2, fun h => absurd (show done 4 = false from h) (by rw [hdc]; decide), fun h => absurd (show done 9 = false from h) (by rw [h2 9 (by simp)]; decide), (by show St w (flg (done 9) (Blk g (bv (bif true then V else List.replicate 32 0)) 23) ++ [Row (.slice Ap n cp) 23 32 n (sumsV ss), TreeA (.pointer p2) t2, Blk g8 (proofC (.slice Ap n cp) th (leafC x y)) 32, Blk g7 (bv rs) 23, Row (.slice (some ⟨gB, 0, none⟩) m d) 30 64 m (leavesV lt), Blk gk (bv k) 24]) Xs; rw [h2 9 (by simp)]; exact hst3.out)⟩
          · refine ⟨_, rfl, fun N hN => ?_⟩
            replace hst := hid hst
            have hdc : done 4 = true := by cases hc : done 4 with | true => rfl | false => have h3 := kd hc; rw [h2 7 (by simp)] at h3; simp at h3
            obtain rfl := ke1 (h2 7 (by simp))
            have HKS := hid (show _ ∧ _ ∧ _ ∧ _ ∧ _ ∧ _ ∧ _ ∧ _ ∧ _ ∧ _ ∧ _ from ⟨kr, kc, km, ke0, ke1, ke2, kal, ka1, ka2, kd, kf⟩)
            clear kr kc km ke0 ke1 ke2 kal ka1 ka2 kd kf
            go_wp2_with fail
            obtain ⟨kr, kc, km, ke0, ke1, ke2, kal, ka1, ka2, kd, kf⟩ := HKS.out
            exact hN _ _ (fun _ => hst.out.sub) ⟨A2, c2, g, V, O, E, xr, xc, xm, xe0, .bool O, xe2, xal, .bool O, xa2, (by go_simp), kr, kc, km, ke0, fun _ => rfl, ke2, kal, fun _ => rfl, ka2, fun h => absurd (show done 4 = false from h) (by rw [hdc]; decide), kf, hst.out⟩
          · refine ⟨_, rfl, fun N hN => ?_⟩
            replace hst := hid hst
            have hdc : done 4 = true := by cases hc : done 4 with | true => rfl | false => have h3 := kd hc; rw [h2 8 (by simp)] at h3; simp at h3
            obtain rfl := ke2 (h2 8 (by simp))
            have HKS := hid (show _ ∧ _ ∧ _ ∧ _ ∧ _ ∧ _ ∧ _ ∧ _ ∧ _ ∧ _ ∧ _ from ⟨kr, kc, km, ke0, ke1, ke2, kal, ka1, ka2, kd, kf⟩)
            clear kr kc km ke0 ke1 ke2 kal ka1 ka2 kd kf
            go_wp2_with fail
            obtain ⟨kr, kc, km, ke0, ke1, ke2, kal, ka1, ka2, kd, kf⟩ := HKS.out
            exact hN _ _ (fun _ => hst.out.sub) ⟨A2, c2, g, V, O, E, xr, xc, xm, xe0, xe1, .int .i64 E, xal, xa1, .int .i64 E, (by go_simp), kr, kc, km, ke0, ke1, fun _ => rfl, kal, ka1, fun _ => rfl, fun h => absurd (show done 4 = false from h) (by rw [hdc]; decide), kf, hst.out⟩
        · rintro done a' w' hd ⟨A2, c2, g, V, O, E, xr, xc, xm, xe0, xe1, xe2, xal, xa1, xa2, rfl, kr, kc, km, ke0, ke1, ke2, kal, ka1, ka2, kd, kf, hst⟩
          obtain rfl := kr (hd (1, []) (by simp))
          obtain ⟨rfl, hV, hC⟩ := kc (hd (4, [1]) (by simp))
          obtain rfl := km (hd (5, [4]) (by simp))
          obtain rfl := ke0 (hd (6, [5]) (by simp))
          obtain rfl := ke1 (hd (7, [5]) (by simp))
          obtain rfl := ke2 (hd (8, [5]) (by simp))
          obtain rfl := kal (hd (9, []) (by simp))
          obtain rfl := ka1 (hd (11, [7, 10]) (by simp))
          obtain rfl := ka2 (hd (12, [8, 11]) (by simp))
          rw [hd (9, []) (by simp), hd (10, [6, 9]) (by simp)] at hst
          have HV := hid hV
          have HC := hid hC
          have H19 := hid hst
          clear kr kc km ke0 ke1 ke2 kal ka1 ka2 kd kf hd hs hV hC hst
          refine hF2 _ _ (wpSegs_nil ?_)
          clear hF2 F2
          have H20 := hid (show St w [Row (.slice Ap n cp) 23 32 n (sumsV ss), TreeA (.pointer p2) t2, Blk g8 (proofC (.slice Ap n cp) th (leafC x y)) 32, Blk g7 (bv rs) 23, Row (.slice (some ⟨gB, 0, none⟩) m d) 30 64 m (leavesV lt), Blk gk (bv k) 24] _ from St.drop H19.out)
          clear H19
          have HC14 := hid (fun (X : World) (hX : St w [Row (.slice Ap n cp) 23 32 n (sumsV ss), TreeA (.pointer p2) t2, Blk g8 (proofC (.slice Ap n cp) th (leafC x y)) 32, Blk g7 (bv rs) 23, Row (.slice (some ⟨gB, 0, none⟩) m d) 30 64 m (leavesV lt), Blk gk (bv k) 24] X) => (HL7.out X hX).2.2)
          go_upto_region 14 with fail
          by_cases hr : rs = rt
          · obtain rfl := HC.out hr
            have CM := fun (p q : Operand) (W : World) => (run_cmpK_eql (P := Tryd.prog) guardSum Tryd.underlying23 be5 cellsK HRL.out HRTL.out p q W).trans (show _ = .ok (.value (.bool true)) W by simp [hr])
            clear hr
            refine wp_region_segs [.ord [(0, 1), (1, 1), (2, 1), (3, 1), (4, 1), (5, 2), (6, 1), (7, 1), (8, 1), (9, 1), (10, 1), (11, 1)]] (fun X => St w [Row (.slice Ap n cp) 23 32 n (sumsV ss), TreeA (.pointer p2) t2, Blk g8 (proofC (.slice Ap n cp) th (leafC x y)) 32, Blk g7 (bv rs) 23, Row (.slice (some ⟨gB, 0, none⟩) m d) 30 64 m (leavesV lt), Blk gk (bv k) 24] X) (by kernel_rfl) (by kernel_rfl) (fun d _ c _ _ h => by cases d <;> exact h) (H20.out.turn (Below.drew (Below.refl _ _))) (fun X hXe hX => ?_)
            have H21 := H20.out.turn (Below.drew (Below.refl _ _))
            rw [← hXe] at H21
            replace H21 := hid H21
            clear hXe
            refine wpSegs_ord fun F1 hF1 => ?_
            clear hX H20
            iterate 5 (apply wpOrd_class; ((· first | (rw [List.getElem?_toArray, List.getElem?_cons_zero]; done) | (simp only [List.getElem?_toArray, List.getElem?_cons_succ, List.getElem?_cons_zero]; exact rfl))); (· exact rfl); intro K hK; apply Exists.intro; refine And.intro (fun X' hX' => ?_) ?_; (· have hq := HC14.out _ hX'; clear hX'; go_simp; (try go_bits); first | done | exact rfl | exact ⟨rfl, rfl⟩); go_simp; refine hK _ _ ?_; clear hK K)
            (apply wpOrd_comes; ((· first | (rw [List.getElem?_toArray, List.getElem?_cons_zero]; done) | (simp only [List.getElem?_toArray, List.getElem?_cons_succ, List.getElem?_cons_zero]; exact rfl))); intro N hN)
            go_wp2_with (go_at_call 7; (with_reducible refine (HRO3.out _ H21.out).mono ?_); rintro r w9 ⟨rfl, hb⟩; have H22 := hid (H21.out.turn hb); clear hb)
            refine hN _ _ (fun _ => H22.out) ?_
            clear hN N
            iterate 6 (apply wpOrd_class; ((· first | (rw [List.getElem?_toArray, List.getElem?_cons_zero]; done) | (simp only [List.getElem?_toArray, List.getElem?_cons_succ, List.getElem?_cons_zero]; exact rfl))); (· exact rfl); intro K hK; apply Exists.intro; refine And.intro (fun X' hX' => ?_) ?_; (· have hq := HC14.out _ hX'; clear hX'; go_simp; (try go_bits); first | done | exact rfl | exact ⟨rfl, rfl⟩); go_simp; refine hK _ _ ?_; clear hK K)
            refine wpOrd_to (hF1 _ _ (wpSegs_nil ?_))
            clear hF1 F1
            go_wp2_with fail
            go_roundw
            case rel => exact ⟨i + 1, t2, by have := HI.out; omega, by go_num, HW2, hid H22.out.drop.drop2.drop2⟩
            case measure => have := HI.out; simp only [intOf]; omega
          · have CM := fun (p q : Operand) (W : World) => (run_cmpK_eql (P := Tryd.prog) guardSum Tryd.underlying23 be5 cellsK HRL.out HRTL.out p q W).trans (show _ = .ok (.value (.bool false)) W by simp [hr])
            clear hr
            refine wp_region_segs [.ord [(0, 1), (1, 1), (2, 1), (3, 1), (4, 1), (5, 2), (6, 1), (7, 1), (8, 1), (9, 1), (10, 1), (11, 1)]] (fun X => St w [Row (.slice Ap n cp) 23 32 n (sumsV ss), TreeA (.pointer p2) t2, Blk g8 (proofC (.slice Ap n cp) th (leafC x y)) 32, Blk g7 (bv rs) 23, Row (.slice (some ⟨gB, 0, none⟩) m d) 30 64 m (leavesV lt), Blk gk (bv k) 24] X) (by kernel_rfl) (by kernel_rfl) (fun d _ c _ _ h => by cases d <;> exact h) (H20.out.turn (Below.drew (Below.refl _ _))) (fun X hXe hX => ?_)
            have H21 := H20.out.turn (Below.drew (Below.refl _ _))
            rw [← hXe] at H21
            replace H21 := hid H21
            clear hXe
            refine wpSegs_ord fun F1 hF1 => ?_
            clear hX H20
            iterate 5 (apply wpOrd_class; ((· first | (rw [List.getElem?_toArray, List.getElem?_cons_zero]; done) | (simp only [List.getElem?_toArray, List.getElem?_cons_succ, List.getElem?_cons_zero]; exact rfl))); (· exact rfl); intro K hK; apply Exists.intro; refine And.intro (fun X' hX' => ?_) ?_; (· have hq := HC14.out _ hX'; clear hX'; go_simp; (try go_bits); first | done | exact rfl | exact ⟨rfl, rfl⟩); go_simp; refine hK _ _ ?_; clear hK K)
            (apply wpOrd_comes; ((· first | (rw [List.getElem?_toArray, List.getElem?_cons_zero]; done) | (simp only [List.getElem?_toArray, List.getElem?_cons_succ, List.getElem?_cons_zero]; exact rfl))); intro N hN)
            go_wp2_with (go_at_call 7; (with_reducible refine (HRO3.out _ H21.out).mono ?_); rintro r w9 ⟨rfl, hb⟩; have H22 := hid (H21.out.turn hb); clear hb)
            refine hN _ _ (fun _ => H22.out) ?_
            clear hN N
            iterate 2 (apply wpOrd_class; ((· first | (rw [List.getElem?_toArray, List.getElem?_cons_zero]; done) | (simp only [List.getElem?_toArray, List.getElem?_cons_succ, List.getElem?_cons_zero]; exact rfl))); (· exact rfl); intro K hK; apply Exists.intro; refine And.intro (fun X' hX' => ?_) ?_; (· have hq := HC14.out _ hX'; clear hX'; go_simp; (try go_bits); first | done | exact rfl | exact ⟨rfl, rfl⟩); go_simp; refine hK _ _ ?_; clear hK K)
            iterate 2 (apply wpOrd_skip1; ((· first | (rw [List.getElem?_toArray, List.getElem?_cons_zero]; done) | (simp only [List.getElem?_toArray, List.getElem?_cons_succ, List.getElem?_cons_zero]; exact rfl))); (· exact rfl); intro K hK; go_simp; refine hK _ _ ?_; clear hK K)
            iterate 2 (apply wpOrd_class; ((· first | (rw [List.getElem?_toArray, List.getElem?_cons_zero]; done) | (simp only [List.getElem?_toArray, List.getElem?_cons_succ, List.getElem?_cons_zero]; exact rfl))); (· exact rfl); intro K hK; apply Exists.intro; refine And.intro (fun X' hX' => ?_) ?_; (· have hq := HC14.out _ hX'; clear hX'; go_simp; (try go_bits); first | done | exact rfl | exact ⟨rfl, rfl⟩); go_simp; refine hK _ _ ?_; clear hK K)
            refine wpOrd_to (hF1 _ _ (wpSegs_nil ?_))
            clear hF1 F1
            go_wp2_with fail
            go_roundw
            case rel => exact ⟨i + 1, t2, by have := HI.out; omega, by go_num, HW2, hid H22.out.drop.drop2.drop2⟩
            case measure => have := HI.out; simp only [intOf]; omega
    · have i1 : ¬ (i : Int) < (m : Int) := by omega
      obtain rfl : m = i := by omega
      obtain ⟨ss, th, x, y, hS⟩ := shown_any (k := k) HW.out
      have HS := hid hS
      obtain ⟨n, hn⟩ : ∃ n, n = ss.length := ⟨_, rfl⟩
      obtain ⟨rs, hrs⟩ : ∃ rs, rs = t.sum sumL := ⟨_, rfl⟩
      have HRL := hid (show rs.length = 32 by rw [hrs]; exact sum_len t)
      have HRS := hid hrs
      obtain ⟨ok, hok⟩ : ∃ ok, ok = getOk (t.last k 0) k := ⟨_, rfl⟩
      have HGT := hid (fun (X : World) (hX : St w [TreeA u5 t, Row (.slice B m d) 30 64 m (leavesV lt), Blk gk (bv k) 24] X) => get_at (k := k) hX hX HW.out HKL.out)
      rw [← hok] at HGT
      have HOK2 := hid (hok.trans hS.ok)
      have HRO4 := hid (fun (X : World) (hX : St w [TreeA u5 t, Row (.slice B m d) 30 64 m (leavesV lt), Blk gk (bv k) 24] X) => root_at hX HG.out)
      rw [← hrs] at HRO4
      have HPV4 := hid (fun (X : World) (M : List Atm) (hX : St w M X) (hX' : St w [TreeA u5 t, Row (.slice B m d) 30 64 m (leavesV lt), Blk gk (bv k) 24] X) => prove_at (k := k) hX hX' HG.out HW.out HKL.out HS.out hn)
      have HCK4 := hid (fun (X : World) (M : List Atm) (A : Option Addr) (c : Nat) (hX : St w (Row (.slice A n c) 23 32 n (sumsV ss) :: M) X) => (check_at hX HG.out HRL.out HKL.out HS.out hn).mono fun (e : Ending) (w' : World) ⟨V, O, E, h1, h2, h3, h4⟩ => show ∃ (V : List UInt8) (O : Bool) (E : Int), e = Ending.returned (.tuple #[.agg (bv V), .bool O, .int .i64 E]) ∧ V.length = 32 ∧ (E = 0 ∧ O = ok) ∧ St w (Row (.slice A n c) 23 32 n (sumsV ss) :: M) w' from ⟨V, O, E, h1, h2, ⟨(h3 HRS.out.symm).1, (h3 HRS.out.symm).2.1.trans HOK2.out.symm⟩, h4⟩)
      have HC17 := hid (fun (X : World) (hX : St w [TreeA u5 t, Row (.slice B m d) 30 64 m (leavesV lt), Blk gk (bv k) 24] X) => HK.out gk X hX.at3.blk)
      have LK := HC17.out _ H2.out
      clear hS hn hrs hok hlt hi
      go_upto_region 17 with (first | (go_at_call 11; (with_reducible refine (HGT.out _ H2.out).mono ?_); rintro r w3 ⟨V0, mm, hV0, rfl, hst⟩; have H3 := hid hst; have HV0 := hid (show (bv V0).size = 32 by rw [bv_size]; exact hV0); clear hst hV0 LK) | (refine wpList_alloc 23 rfl rfl (.agg (bv (List.replicate 32 0))) zero54s ?_; intro g18 W1 h1 hl1 hg1 hW1; have H4 := hid (H3.out.newBlk hW1 hg1 h1); clear h1 hl1 hg1 hW1) | (refine wpList_store_box 23 _ _ rfl g18 rfl rfl (bv V0) rfl 32 size54s HV0.out (bv_one _) 23 _ H4.out.blk HZ32.out ?_; intro Xs hB7 hT7 hs7; have H5 := hid ((H4.out.put hB7 hT7).drop); clear hB7 hT7 hs7))
      clear H2 H3 H4
      refine wp_region_segs [.ord [(0, 1), (2, 1), (3, 1), (4, 1)], .blk [(1, []), (5, [1]), (6, [1, 5]), (7, [6]), (8, [7]), (9, [7]), (10, [7]), (11, []), (12, [8, 11]), (13, [9, 12]), (14, [10, 13])]] (fun X => St w [TreeA u5 t, Row (.slice B m d) 30 64 m (leavesV lt), Blk gk (bv k) 24] X) (by kernel_rfl) (by kernel_rfl) (fun d _ c _ _ h => by cases d <;> exact h) (H5.out.turn (Below.drew (Below.refl _ _))) (fun X hXe hX => ?_)
      have H6 := H5.out.turn (Below.drew (Below.refl _ _))
      rw [← hXe] at H6
      replace H6 := hid H6
      clear hXe
      refine wpSegs_ord fun F1 hF1 => ?_
      clear hX H5
      iterate 4 (apply wpOrd_class; ((· first | (rw [List.getElem?_toArray, List.getElem?_cons_zero]; done) | (simp only [List.getElem?_toArray, List.getElem?_cons_succ, List.getElem?_cons_zero]; exact rfl))); (· exact rfl); intro K hK; apply Exists.intro; refine And.intro (fun X' hX' => ?_) ?_; (· have hq := HC17.out _ hX'; clear hX'; go_simp; (try go_bits); first | done | exact rfl | exact ⟨rfl, rfl⟩); go_simp; refine hK _ _ ?_; clear hK K)
      have hs := H6.out
      refine wpOrd_to (hF1 _ _ ?_)
      clear hF1 F1
      refine wpSegs_blk fun F2 hF2 => ?_
      refine bulk_intro (fun a0 done a' w' => ∃ (A2 : Option Addr) (c2 g : Nat) (V : List UInt8) (O : Bool) (E : Int) (xr xp xc xm xe0 xe1 xe2 xal xa1 xa2 : Value), a' = ((((((((((a0.put (some 115) xr).put (some 119) xp).put (some 120) xc).put (some 113) xm).put (some 121) xe0).put (some 122) xe1).put (some 123) xe2).put (some 21) xal).put (some 22) xa1).put (some 23) xa2) ∧ (done 1 = true → xr = .agg (bv rs)) ∧ (done 5 = true → xp = .agg (proofC (.slice A2 n c2) th (leafC x y))) ∧ (done 6 = true → xc = .tuple #[.agg (bv V), .bool O, .int .i64 E] ∧ V.length = 32 ∧ (E = 0 ∧ O = ok)) ∧ (done 7 = true → xm = .tuple #[.agg (bv V), .bool O, .int .i64 E]) ∧ (done 8 = true → xe0 = .agg (bv V)) ∧ (done 9 = true → xe1 = .bool O) ∧ (done 10 = true → xe2 = .int .i64 E) ∧ (done 11 = true → xal = .pointer (some ⟨g, 0, none⟩)) ∧ (done 13 = true → xa1 = .bool O) ∧ (done 14 = true → xa2 = .int .i64 E) ∧ (done 6 = false → done 7 = false ∧ done 8 = false ∧ done 9 = false ∧ done 10 = false ∧ done 12 = false ∧ done 13 = false ∧ done 14 = false) ∧ (done 11 = false → done 12 = false) ∧ St w (flg (done 5) (Row (.slice A2 n c2) 23 32 n (sumsV ss)) ++ (flg (done 11) (Blk g (bv (bif done 12 then V else List.replicate 32 0)) 23) ++ [TreeA u5 t, Row (.slice B m d) 30 64 m (leavesV lt), Blk gk (bv k) 24])) w') ?_ ?_ ?_
      · intro done hd
        have dr := hd (1, []) (by simp)
        have dp := hd (5, [1]) (by simp)
        have dc := hd (6, [1, 5]) (by simp)
        have dm := hd (7, [6]) (by simp)
        have de0 := hd (8, [7]) (by simp)
        have de1 := hd (9, [7]) (by simp)
        have de2 := hd (10, [7]) (by simp)
        have dal := hd (11, []) (by simp)
        have dst := hd (12, [8, 11]) (by simp)
        have da1 := hd (13, [9, 12]) (by simp)
        have da2 := hd (14, [10, 13]) (by simp)
        refine exists_put10 (i0 := 115) (i1 := 119) (i2 := 120) (i3 := 113) (i4 := 121) (i5 := 122) (i6 := 123) (i7 := 21) (i8 := 22) (i9 := 23) fun xr xp xc xm xe0 xe1 xe2 xal xa1 xa2 e => ⟨none, 0, 0, [], false, 0, xr, xp, xc, xm, xe0, xe1, xe2, xal, xa1, xa2, e, fun h => (by rw [dr] at h; cases h), fun h => (by rw [dp] at h; cases h), fun h => (by rw [dc] at h; cases h), fun h => (by rw [dm] at h; cases h), fun h => (by rw [de0] at h; cases h), fun h => (by rw [de1] at h; cases h), fun h => (by rw [de2] at h; cases h), fun h => (by rw [dal] at h; cases h), fun h => (by rw [da1] at h; cases h), fun h => (by rw [da2] at h; cases h), fun _ => ⟨dm, de0, de1, de2, dst, da1, da2⟩, fun _ => dst, by rw [dp, dal]; exact hs⟩
      · rintro p hp done a' w' h1 h2 ⟨A2, c2, g, V, O, E, xr, xp, xc, xm, xe0, xe1, xe2, xal, xa1, xa2, rfl, kr, kp, kc, km, ke0, ke1, ke2, kal, ka1, ka2, kd, kf, hst⟩
        clear hs
        simp only [List.mem_cons, List.not_mem_nil, or_false] at hp
        rcases hp with rfl | rfl | rfl | rfl | rfl | rfl | rfl | rfl | rfl | rfl | rfl
        · refine ⟨_, rfl, fun N hN => ?_⟩
          replace hst := hid hst
          have HKS := hid (show _ ∧ _ ∧ _ ∧ _ ∧ _ ∧ _ ∧ _ ∧ _ ∧ _ ∧ _ ∧ _ ∧ _ from ⟨kr, kp, kc, km, ke0, ke1, ke2, kal, ka1, ka2, kd, kf⟩)
          clear kr kp kc km ke0 ke1 ke2 kal ka1 ka2 kd kf
          go_wp2_with (go_at_call 7; (with_reducible refine (HRO4.out _ hst.out.sub.sub).mono ?_); rintro r Xs ⟨rfl, hb⟩)
          obtain ⟨kr, kp, kc, km, ke0, ke1, ke2, kal, ka1, ka2, kd, kf⟩ := HKS.out
          exact hN _ _ (fun _ => (hst.out.turn hb).sub.sub) ⟨A2, c2, g, V, O, E, .agg (bv rs), xp, xc, xm, xe0, xe1, xe2, xal, xa1, xa2, (by go_simp), fun _ => rfl, kp, kc, km, ke0, ke1, ke2, kal, ka1, ka2, kd, kf, hst.out.turn hb⟩
        · refine ⟨_, rfl, fun N hN => ?_⟩
          replace hst := hid hst
          have HKS := hid (show _ ∧ _ ∧ _ ∧ _ ∧ _ ∧ _ ∧ _ ∧ _ ∧ _ ∧ _ ∧ _ ∧ _ from ⟨kr, kp, kc, km, ke0, ke1, ke2, kal, ka1, ka2, kd, kf⟩)
          have hst2 := hst.out
          rw [h1] at hst2
          replace hst2 := hid hst2
          clear kr kp kc km ke0 ke1 ke2 kal ka1 ka2 kd kf
          go_wp2_with (go_at_call 8; (with_reducible refine (HPV4.out _ _ hst2.out hst.out.sub.sub).mono ?_); rintro r Xs ⟨A3, c3, rfl, hst3⟩)
          obtain ⟨kr, kp, kc, km, ke0, ke1, ke2, kal, ka1, ka2, kd, kf⟩ := HKS.out
          exact hN _ _ (fun _ => hst3.drop.sub.sub) ⟨A3, c3, g, V, O, E, xr, .agg (proofC (.slice A3 n c3) th (leafC x y)), xc, xm, xe0, xe1, xe2, xal, xa1, xa2, (by go_simp), kr, fun _ => rfl, kc, km, ke0, ke1, ke2, kal, ka1, ka2, kd, kf, hst3⟩
        · refine ⟨_, rfl, fun N hN => ?_⟩
          replace hst := hid hst
          obtain rfl := kr (h2 1 (by simp))
          obtain rfl := kp (h2 5 (by simp))
          have HKS := hid (show _ ∧ _ ∧ _ ∧ _ ∧ _ ∧ _ ∧ _ ∧ _ ∧ _ ∧ _ ∧ _ ∧ _ from ⟨kr, kp, kc, km, ke0, ke1, ke2, kal, ka1, ka2, kd, kf⟩)
          have hst2 := hst.out
          rw [h2 5 (by simp)] at hst2
          replace hst2 := hid (show St w (Row (.slice A2 n c2) 23 32 n (sumsV ss) :: (flg (done 11) (Blk g (bv (bif done 12 then V else List.replicate 32 0)) 23) ++ [TreeA u5 t, Row (.slice B m d) 30 64 m (leavesV lt), Blk gk (bv k) 24])) _ from hst2)
          clear kr kp kc km ke0 ke1 ke2 kal ka1 ka2 kd kf
          go_wp2_with (go_at_call 10; (with_reducible refine (HCK4.out _ _ _ _ hst2.out).mono ?_); rintro r Xs ⟨V2, O2, E2, rfl, hV2, hC2, hst3⟩)
          obtain ⟨kr, kp, kc, km, ke0, ke1, ke2, kal, ka1, ka2, kd, kf⟩ := HKS.out
          obtain ⟨d1, d2, d3, d4, d5, d6, d7⟩ := kd h1
          rw [d5] at hst3
          exact hN _ _ (fun _ => hst3.drop.sub) ⟨A2, c2, g, V2, O2, E2, .agg (bv rs), .agg (proofC (.slice A2 n c2) th (leafC x y)), .tuple #[.agg (bv V2), .bool O2, .int .i64 E2], xm, xe0, xe1, xe2, xal, xa1, xa2, (by go_simp), fun _ => rfl, fun _ => rfl, fun _ => ⟨rfl, hV2, hC2⟩, fun h => absurd (show done 7 = true from h) (by rw [d1]; decide), fun h => absurd (show done 8 = true from h) (by rw [d2]; decide), fun h => absurd (show done 9 = true from h) (by rw [d3]; decide), fun h => absurd (show done 10 = true from h) (by rw [d4]; decide), kal, fun h => absurd (show done 13 = true from h) (by rw [d6]; decide), fun h => absurd (show done 14 = true from h) (by rw [d7]; decide), fun h => (by cases h), kf, (by show St w (flg (done 5) (Row (.slice A2 n c2) 23 32 n (sumsV ss)) ++ (flg (done 11) (Blk g (bv (bif done 12 then V2 else List.replicate 32 0)) 23) ++ [TreeA u5 t, Row (.slice B m d) 30 64 m (leavesV lt), Blk gk (bv k) 24])) Xs; rw [d5, h2 5 (by simp)]; exact hst3)⟩
        · refine ⟨_, rfl, fun N hN => ?_⟩
          replace hst := hid hst
          have hdc := h2 6 (by simp)
          obtain ⟨rfl, _, _⟩ := kc (h2 6 (by simp))
          have HKS := hid (show _ ∧ _ ∧ _ ∧ _ ∧ _ ∧ _ ∧ _ ∧ _ ∧ _ ∧ _ ∧ _ ∧ _ from ⟨kr, kp, kc, km, ke0, ke1, ke2, kal, ka1, ka2, kd, kf⟩)
          clear kr kp kc km ke0 ke1 ke2 kal ka1 ka2 kd kf
          go_wp2_with fail
          obtain ⟨kr, kp, kc, km, ke0, ke1, ke2, kal, ka1, ka2, kd, kf⟩ := HKS.out
          exact hN _ _ (fun _ => hst.out.sub.sub) ⟨A2, c2, g, V, O, E, xr, xp, .tuple #[.agg (bv V), .bool O, .int .i64 E], .tuple #[.agg (bv V), .bool O, .int .i64 E], xe0, xe1, xe2, xal, xa1, xa2, (by go_simp), kr, kp, fun h => ⟨rfl, (kc h).2⟩, fun _ => rfl, ke0, ke1, ke2, kal, ka1, ka2, fun h => absurd (show done 6 = false from h) (by rw [hdc]; decide), kf, hst.out⟩
        · refine ⟨_, rfl, fun N hN => ?_⟩
          replace hst := hid hst
          have hdc : done 6 = true := by cases hc : done 6 with | true => rfl | false => have h3 := kd hc; rw [h2 7 (by simp)] at h3; simp at h3
          obtain rfl := km (h2 7 (by simp))
          have HKS := hid (show _ ∧ _ ∧ _ ∧ _ ∧ _ ∧ _ ∧ _ ∧ _ ∧ _ ∧ _ ∧ _ ∧ _ from ⟨kr, kp, kc, km, ke0, ke1, ke2, kal, ka1, ka2, kd, kf⟩)
          clear kr kp kc km ke0 ke1 ke2 kal ka1 ka2 kd kf
          go_wp2_with fail
          obtain ⟨kr, kp, kc, km, ke0, ke1, ke2, kal, ka1, ka2, kd, kf⟩ := HKS.out
          exact hN _ _ (fun _ => hst.out.sub.sub) ⟨A2, c2, g, V, O, E, xr, xp, xc, .tuple #[.agg (bv V), .bool O, .int .i64 E], .agg (bv V), xe1, xe2, xal, xa1, xa2, (by go_simp), kr, kp, kc, fun _ => rfl, fun _ => rfl, ke1, ke2, kal, ka1, ka2, fun h => absurd (show done 6 = false from h) (by rw [hdc]; decide), kf, hst.out⟩
        · refine ⟨_, rfl, fun N hN => ?_⟩
          replace hst := hid hst
          have hdc : done 6 = true := by cases hc : done 6 with | true => rfl | false => have h3 := kd hc; rw [h2 7 (by simp)] at h3; simp at h3
          obtain rfl := km (h2 7 (by simp))
          have HKS := hid (show _ ∧ _ ∧ _ ∧ _ ∧ _ ∧ _ ∧ _ ∧ _ ∧ _ ∧ _ ∧ _ ∧ _ from ⟨kr, kp, kc, km, ke0, ke1, ke2, kal, ka1, ka2, kd, kf⟩)
          clear kr kp kc km ke0 ke1 ke2 kal ka1 ka2 kd kf
          go_wp2_with fail
          obtain ⟨kr, kp, kc, km, ke0, ke1, ke2, kal, ka1, ka2, kd, kf⟩ := HKS.out
          exact hN _ _ (fun _ => hst.out.sub.sub) ⟨A2, c2, g, V, O, E, xr, xp, xc, .tuple #[.agg (bv V), .bool O, .int .i64 E], xe0, .bool O, xe2, xal, xa1, xa2, (by go_simp), kr, kp, kc, fun _ => rfl, ke0, fun _ => rfl, ke2, kal, ka1, ka2, fun h => absurd (show done 6 = false from h) (by rw [hdc]; decide), kf, hst.out⟩
        · refine ⟨_, rfl, fun N hN => ?_⟩
          replace hst := hid hst
          have hdc : done 6 = true := by cases hc : done 6 with | true => rfl | false => have h3 := kd hc; rw [h2 7 (by simp)] at h3; simp at h3
          obtain rfl := km (h2 7 (by simp))
          have HKS := hid (show _ ∧ _ ∧ _ ∧ _ ∧ _ ∧ _ ∧ _ ∧ _ ∧ _ ∧ _ ∧ _ ∧ _ from ⟨kr, kp, kc, km, ke0, ke1, ke2, kal, ka1, ka2, kd, kf⟩)
          clear kr kp kc km ke0 ke1 ke2 kal ka1 ka2 kd kf
          go_wp2_with fail
          obtain ⟨kr, kp, kc, km, ke0, ke1, ke2, kal, ka1, ka2, kd, kf⟩ := HKS.out
          exact hN _ _ (fun _ => hst.out.sub.sub) ⟨A2, c2, g, V, O, E, xr, xp, xc, .tuple #[.agg (bv V), .bool O, .int .i64 E], xe0, xe1, .int .i64 E, xal, xa1, xa2, (by go_simp), kr, kp, kc, fun _ => rfl, ke0, ke1, fun _ => rfl, kal, ka1, ka2, fun h => absurd (show done 6 = false from h) (by rw [hdc]; decide), kf, hst.out⟩
        · refine ⟨_, rfl, fun N hN => ?_⟩
          replace hst := hid hst
          have HKS := hid (show _ ∧ _ ∧ _ ∧ _ ∧ _ ∧ _ ∧ _ ∧ _ ∧ _ ∧ _ ∧ _ ∧ _ from ⟨kr, kp, kc, km, ke0, ke1, ke2, kal, ka1, ka2, kd, kf⟩)
          clear kr kp kc km ke0 ke1 ke2 kal ka1 ka2 kd kf
          go_wp2_with (refine wpList_alloc 23 rfl rfl (.agg (bv (List.replicate 32 0))) zero54s ?_; intro g3 Xs h3 hl3 hg3 hb; have hst4 := hid (hst.out.newBlk hb hg3 h3); have hbb := hid hb; clear h3 hl3 hg3 hb)
          obtain ⟨kr, kp, kc, km, ke0, ke1, ke2, kal, ka1, ka2, kd, kf⟩ := HKS.out
          have d5 := kf h1
          have hst5 := hst4.out
          rw [h1] at hst5
          exact hN _ _ (fun _ => (hst.out.turn hbb.out).sub.sub) ⟨A2, c2, g3, V, O, E, xr, xp, xc, xm, xe0, xe1, xe2, .pointer (some ⟨g3, 0, none⟩), xa1, xa2, (by go_simp), kr, kp, kc, km, ke0, ke1, ke2, fun _ => rfl, ka1, ka2, kd, fun h => (by cases h), (by show St w (flg (done 5) (Row (.slice A2 n c2) 23 32 n (sumsV ss)) ++ (flg (true) (Blk g3 (bv (bif done 12 then V else List.replicate 32 0)) 23) ++ [TreeA u5 t, Row (.slice B m d) 30 64 m (leavesV lt), Blk gk (bv k) 24])) Xs; rw [d5]; exact hst5.unmid)⟩
        · refine ⟨_, rfl, fun N hN => ?_⟩
          replace hst := hid hst
          have hdc : done 6 = true := by cases hc : done 6 with | true => rfl | false => have h3 := kd hc; rw [h2 8 (by simp)] at h3; simp at h3
          obtain rfl := kal (h2 11 (by simp))
          obtain rfl := ke0 (h2 8 (by simp))
          have HKS := hid (show _ ∧ _ ∧ _ ∧ _ ∧ _ ∧ _ ∧ _ ∧ _ ∧ _ ∧ _ ∧ _ ∧ _ from ⟨kr, kp, kc, km, ke0, ke1, ke2, kal, ka1, ka2, kd, kf⟩)
          have hVZ := hid (show (bv V).size = 32 by rw [bv_size]; exact (kc hdc).2.1)
          have hst2 := hst.out
          rw [h1, h2 11 (by simp)] at hst2
          replace hst2 := hid (show St w (Blk g (bv (List.replicate 32 0)) 23 :: (flg (done 5) (Row (.slice A2 n c2) 23 32 n (sumsV ss)) ++ [TreeA u5 t, Row (.slice B m d) 30 64 m (leavesV lt), Blk gk (bv k) 24])) _ from (St.mid hst2))
          clear kr kp kc km ke0 ke1 ke2 kal ka1 ka2 kd kf
          go_wp2_with (refine wpList_store_box 23 _ _ rfl g (by simp [Act.eval, Act.put]) rfl (bv V) (by simp [Act.eval, Act.put]) 32 size54s hVZ.out (bv_one _) 23 _ hst2.out.blk HZ32.out ?_; intro Xs hB7 hT7 hs7; have hst3 := hid (hst2.out.put hB7 hT7); clear hB7 hT7 hs7)
          obtain ⟨kr, kp, kc, km, ke0, ke1, ke2, kal, ka1, ka2, kd, kf⟩ := HKS.out
          exact hN _ _ (fun _ => hst3.out.drop.sub) ⟨A2, c2, g, V, O, E, xr, xp, xc, xm, .agg (bv V), xe1, xe2, .pointer (some ⟨g, 0, none⟩), xa1, xa2, (by go_simp), kr, kp, kc, km, fun _ => rfl, ke1, ke2, fun _ => rfl, ka1, ka2, fun h => absurd (show done 6 = false from h) (by rw [hdc]; decide), fun h => absurd (show done 11 = false from h) (by rw [h2 11 (by simp)]; decide), (by show St w (flg (done 5) (Row (.slice A2 n c2) 23 32 n (sumsV ss)) ++ (flg (done 11) (Blk g (bv (bif true then V else List.replicate 32 0)) 23) ++ [TreeA u5 t, Row (.slice B m d) 30 64 m (leavesV lt), Blk gk (bv k) 24])) Xs; rw [h2 11 (by simp)]; exact hst3.out.unmid)⟩
        · refine ⟨_, rfl, fun N hN => ?_⟩
          replace hst := hid hst
          have hdc : done 6 = true := by cases hc : done 6 with | true => rfl | false => have h3 := kd hc; rw [h2 9 (by simp)] at h3; simp at h3
          obtain rfl := ke1 (h2 9 (by simp))
          have HKS := hid (show _ ∧ _ ∧ _ ∧ _ ∧ _ ∧ _ ∧ _ ∧ _ ∧ _ ∧ _ ∧ _ ∧ _ from ⟨kr, kp, kc, km, ke0, ke1, ke2, kal, ka1, ka2, kd, kf⟩)
          clear kr kp kc km ke0 ke1 ke2 kal ka1 ka2 kd kf
          go_wp2_with fail
          obtain ⟨kr, kp, kc, km, ke0, ke1, ke2, kal, ka1, ka2, kd, kf⟩ := HKS.out
          exact hN _ _ (fun _ => hst.out.sub.sub) ⟨A2, c2, g, V, O, E, xr, xp, xc, xm, xe0, .bool O, xe2, xal, .bool O, xa2, (by go_simp), kr, kp, kc, km, ke0, fun _ => rfl, ke2, kal, fun _ => rfl, ka2, fun h => absurd (show done 6 = false from h) (by rw [hdc]; decide), kf, hst.out⟩
        · refine ⟨_, rfl, fun N hN => ?_⟩
          replace hst := hid hst
          have hdc : done 6 = true := by cases hc : done 6 with | true => rfl | false => have h3 := kd hc; rw [h2 10 (by simp)] at h3; simp at h3
          obtain rfl := ke2 (h2 10 (by simp))
          have HKS := hid (show _ ∧ _ ∧ _ ∧ _ ∧ _ ∧ _ ∧ _ ∧ _ ∧ _ ∧ _ ∧ _ ∧ _ from ⟨kr, kp, kc, km, ke0, ke1, ke2, kal, ka1, ka2, kd, kf⟩)
          clear kr kp kc km ke0 ke1 ke2 kal ka1 ka2 kd kf
          go_wp2_with fail
          obtain ⟨kr, kp, kc, km, ke0, ke1, ke2, kal, ka1, ka2, kd, kf⟩ := HKS.out
          exact hN _ _ (fun _ => hst.out.sub.sub) ⟨A2, c2, g, V, O, E, xr, xp, xc, xm, xe0, xe1, .int .i64 E, xal, xa1, .int .i64 E, (by go_simp), kr, kp, kc, km, ke0, ke1, fun _ => rfl, kal, ka1, fun _ => rfl, fun h => absurd (show done 6 = false from h) (by rw [hdc]; decide), kf, hst.out⟩
      · rintro done a' w' hd ⟨A2, c2, g, V, O, E, xr, xp, xc, xm, xe0, xe1, xe2, xal, xa1, xa2, rfl, kr, kp, kc, km, ke0, ke1, ke2, kal, ka1, ka2, kd, kf, hst⟩
        obtain rfl := kr (hd (1, []) (by simp))
        obtain rfl := kp (hd (5, [1]) (by simp))
        obtain ⟨rfl, hV, hC⟩ := kc (hd (6, [1, 5]) (by simp))
        obtain rfl := km (hd (7, [6]) (by simp))
        obtain rfl := ke0 (hd (8, [7]) (by simp))
        obtain rfl := ke1 (hd (9, [7]) (by simp))
        obtain rfl := ke2 (hd (10, [7]) (by simp))
        obtain rfl := kal (hd (11, []) (by simp))
        obtain rfl := ka1 (hd (13, [9, 12]) (by simp))
        obtain rfl := ka2 (hd (14, [10, 13]) (by simp))
        rw [hd (5, [1]) (by simp), hd (11, []) (by simp), hd (12, [8, 11]) (by simp)] at hst
        have HV := hid hV
        have HC := hid hC
        have H7 := hid hst
        clear kr kp kc km ke0 ke1 ke2 kal ka1 ka2 kd kf hd hs hV hC hst
        refine hF2 _ _ (wpSegs_nil ?_)
        clear hF2 F2
        obtain ⟨hE, hO⟩ := HC.out
        clear HC
        subst hE hO
        clear HGT HRO4 HPV4 HCK4
        go_wp2_with (go_at_call 12; (with_reducible refine (HSTD.out _ _ H7.out).mono ?_); rintro r w9 ⟨rfl, hst⟩; have H8 := hid hst; clear hst)
        go_ret
        exact ⟨rfl, H8.out.below⟩
end Go.Proofs.YtnakbdgoaepehaaDoor
/- CustumalProves: of each version of a tree each leaf is proved, and that no other key has one: for all leaves and keys. The two tables of the sums are tied to the program's text by the card. -/
namespace Go.Proofs.YtnakbdgoaepehaaDoor
open Go.ChangeShapes Go.WideShapes Go.ChangeAt Go.RowKit Go.Cu
theorem own : ownKnob Tryd.prog.godebug = none := by kernel_rfl
theorem laidOut : laidOutB Tryd.prog = true := by kernel_rfl
abbrev laidA : List (String × DataW Unit) := [("custumal/sha2.start", Rows.laid_custumal_sha2_start), ("custumal/sha2.rounds", Rows.laid_custumal_sha2_rounds)]
/-- The door's own heap meets the condition. -/
theorem door_met (os : Os) (args : Array Value) : laidMetH Tryd.prog laidA ((World.doorLaid Tryd.prog 400 os).forCall (fun _ _ => 0) ⟨#[], args, []⟩).memory := by
  rw [MakeChecks.laidMetH_plain _ _ _ (by kernel_rfl)]
  exact laidMet_of_run' 8 (by kernel_rfl) (by kernel_rfl)
set_option maxRecDepth 100000 in
theorem proves_lifted (os : Os) (started : os.Started) (H : Type) (enc : TypeId × Value → H) :
    ReturnsInHanded {} Tryd.checked os 3 .any (fun w args => (Rows.custumalProvesSpec.pre enc Tryd.prog Tryd.f3 [] false w args ∧ laidMetH Tryd.prog laidA w) ∧ sizedMet enc Tryd.prog Tryd.f3 (OpenSpec.ofChange Rows.custumalProvesSpec) false w args)
      (Rows.custumalProvesSpec.post enc Tryd.prog Tryd.f3 false true false false) := by
  refine returnsInHanded_of_change_and (C := Tryd.checked) (X := fun w _ => laidMetH Tryd.prog laidA w) (fun _ _ _ hh h => h.of_heap hh) own started (by kernel_rfl) Tryd.func3
    (ChangeSpec.witness_shaped (enc := enc) (C := Tryd.checked) (os := os) (X := fun w _ => laidMetH Tryd.prog laidA w) false (World.doorLaid Tryd.prog 400 os) #[.slice none 0 0, .agg (bv (List.replicate 32 0))] 8 rfl (World.shaped_of_RefB (by kernel_rfl) (by kernel_rfl)) (by kernel_rfl) (by kernel_rfl) (by kernel_rfl) (door_met os _)) ?_
  intro W base args ds gs before hval0 hW _ _ hL _
  have hval : ∀ (j : Nat) t v, Tryd.f3.params[j]? = some t → args[j]? = some v → Value.okWide Tryd.prog W .any base t v := hval0
  have hW' := hW
  obtain ⟨p, q, hA0, hV, rfl, hfz, hnd⟩ := hW
  have hA : DataW.TrodAll enc Tryd.prog W 0 (fun _ => true) true Tryd.f3.params.toList args.toList ds p := hA0
  rw [Tryd.params3] at hA hval
  obtain ⟨v0, vs0, d0, ds0, p0, q0, hargs, rfl, rfl, h0, r0⟩ := trodAll_cons hA
  obtain ⟨v1, vs1, d1, ds1, p1, q1, rfl, rfl, rfl, h1, r1⟩ := trodAll_cons r0
  obtain ⟨rfl, rfl, rfl⟩ := trodAll_nil r1
  obtain rfl : args = #[v0, v1] := by cases args; simp_all
  obtain ⟨rfl, rfl⟩ := trodVars_none hV
  have k0 := h0
  have lt0 : ∀ x ∈ p0, x.block < W.heap.size := by obtain ⟨m, hm⟩ := k0; exact DataW.trod_lt m _ _ _ hm
  have k1 := h1
  have lt1 : ∀ x ∈ p1, x.block < W.heap.size := by obtain ⟨m, hm⟩ := k1; exact DataW.trod_lt m _ _ _ hm
  obtain ⟨A0, c0, ls, rfl, hlc, hok, hin⟩ := leaves_open (k1 := 24) (k2 := 23) (b := 5) Tryd.underlying22 (by kernel_rfl) Tryd.underlying30 rfl rfl rfl rfl rfl rfl Tryd.underlying24 Tryd.underlying23 (by kernel_rfl) (by kernel_rfl) Tryd.underlying5 (by kernel_rfl) (hval 0 22 v0 rfl rfl) h0
  obtain ⟨a1, w1, rfl⟩ := open_bytes Tryd.underlying24 Tryd.underlying5 (by kernel_rfl) (by kernel_rfl) (hval 1 24 v1 rfl rfl) h1
  clear hA0 hval0
  refine (proves_walk W (glob_of_laid hL) hin hok hlc w1).mono fun e W' ⟨he, bel⟩ => ?_
  subst he
  exact ⟨_, rfl, _, _, _, [], _, [], hW', trodAll_mk1 (shut_bool Tryd.underlying4 _), (trodAll_cons_mk (Below.trod laidOut (by kernel_rfl) (of_decide_eq_true (by kernel_rfl)) k0 bel lt0) (trodAll_cons_mk (Below.trod laidOut (by kernel_rfl) (of_decide_eq_true (by kernel_rfl)) k1 bel lt1) trodAll_mk0)), rfl, bel.frame _, fun h => by cases h⟩

theorem custumalProves_holds : Rows.CustumalProvesSaid :=
  OpenClaim.holds_of_wide 3 Tryd.f3 rfl rfl rfl rfl rfl rfl rfl ⟨rfl, rfl, rfl, rfl, rfl⟩ rfl rfl rfl rfl rfl (by kernel_rfl) Tryd.func3 (by kernel_rfl)
    (of_decide_eq_true (by kernel_rfl)) (by unfold Func.isWrapper; first | (rw [if_pos (by decide +kernel)]; kernel_rfl) | (rw [if_neg (by decide +kernel)]; exact ⟨rfl, rfl⟩))
    (fun os started H enc _ => proves_lifted os started H enc)

theorem custumalProves_card : Rows.CustumalProvesCardSaid :=
  Claim7.holds_tied_plain_at .later [] [.data, .data] true (true, "6500f4af6ab020251246ec3d5906ec6065d01b9c5ad1c1b7304603533cdc5830") false
    custumalProves_holds (fun _ h => by cases h) (by kernel_rfl) (fun _ h => by cases h) custumalProves_row_tie rfl ⟨rfl, rfl⟩ (by kernel_rfl) rfl
    (fun f fn hf hfn => by
      obtain rfl : f = 3 := Option.some.inj ((show Tryd.prog.funcNamed "custumal/custumaltop.CustumalProves" = some 3 by kernel_rfl).symm.trans hf) |>.symm
      obtain rfl : fn = Tryd.f3 := (Option.some.inj (Tryd.func3.symm.trans hfn)).symm
      exact ⟨by kernel_rfl, fun j t ht => by
        rw [Tryd.params3] at ht
        have hm : t ∈ [22, 24] := by simpa using Array.mem_of_getElem? ht
        have hall : ([22, 24].all fun u => !Tryd.prog.wantsStandIn u) = true := by kernel_rfl
        exact (show Tryd.prog.wantsStandIn t = false by simpa using List.all_eq_true.1 hall t hm)⟩)
    (by kernel_rfl)
end Go.Proofs.YtnakbdgoaepehaaDoor
