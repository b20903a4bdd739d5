/- A block as 80 words of 64 bits. -/
import Derived.Test.YtnakbdgoaepehaaDoorSha5Turn
namespace Go.Cu
open Go Go.RowKit
/-- Words as cells. -/
def w64 (l : List UInt64) : Array Value := (l.map fun x => Value.int .u64 x.toNat).toArray
theorem w64_size (l : List UInt64) : (w64 l).size = l.length := by simp [w64]
theorem w64_get (l : List UInt64) {i : Nat} (h : i < l.length) : (w64 l)[i]? = some (.int .u64 ((l.getD i 0).toNat : Int)) := by simp [w64, h]
theorem w64_set (l : List UInt64) (i : Nat) (x : UInt64) : (w64 l).setIfInBounds i (.int .u64 (x.toNat : Int)) = w64 (l.set i x) := by
  apply Array.ext_getElem?
  intro j
  simp only [w64, Array.getElem?_setIfInBounds, List.getElem?_toArray, List.getElem?_map, List.getElem?_set, List.size_toArray, List.length_map]
  by_cases h : i = j
  · subst h
    by_cases h2 : i < l.length <;> simp [h2]
  · simp [h]
theorem w64_one (l : List UInt64) : ∀ u ∈ (w64 l).toList, u.oneCell' = true := by
  intro u hu
  simp only [w64, List.mem_map] at hu
  obtain ⟨b, _, rfl⟩ := hu
  rfl
theorem shl64 (x : UInt64) (b : UInt8) : bits .or .u64 (IntKind.u64.wrap ((x.toNat : Int) * 256)) (b.toNat : Int) = ((UInt64.ofNat (x.toNat * 256 % 18446744073709551616 ||| b.toNat)).toNat : Int) := by
  have hb := b.toNat_lt
  have e1 : IntKind.u64.wrap ((x.toNat : Int) * 256) = ((x.toNat * 256 % 18446744073709551616 : Nat) : Int) := by rw [wrapU]; simp
  rw [e1, or64_ex (Nat.mod_lt _ (by decide)) (by omega)]
theorem shr64 (x : UInt64) (d : Nat) : (x.toNat : Int) / (d : Int) = ((UInt64.ofNat (x.toNat / d)).toNat : Int) := by
  rw [UInt64.toNat_ofNat', Nat.mod_eq_of_lt (Nat.lt_of_le_of_lt (Nat.div_le_self _ _) (UInt64.toNat_lt x))]
  simp
end Go.Cu
namespace Go.Proofs.YtnakbdgoaepehaaDoor
open Go.RowKit Go.Cu
set_option maxRecDepth 20000 in
theorem zero80w (W : World) : (zeroValue 113).run Tryd.prog W = .ok (.agg (w64 (List.replicate 80 0))) W := by kernel_rfl
theorem size80w : (Tryd.prog.info? 113).map (·.size) = some 80 := by kernel_rfl
@[go_sem ↓] theorem ldktW80 (a : Act) (dst : Option Tmp) (x : Operand) (ty : TypeId) (pos : String) (after : Array Edge) (guard : Option (Nat × Bool)) :
      execOp a.eval { dst, op := .load 113 x, type := ty, pos, after, guard } = loadK 113 (a.eval x) := rfl
theorem lblk_cell {W0 W : World} {L : List Atm} {g t i : Nat} {l : List UInt64} (h : St W0 (Blk g (w64 l) t :: L) W) (hi : i < l.length) : W.cell? ⟨g, i, none⟩ = some (.int .u64 ((l.getD i 0).toNat : Int)) := (cell_of_row W g i _ _ _ h.blk).trans (w64_get l hi)
set_option maxRecDepth 20000 in
set_option maxHeartbeats 4000000 in
theorem spread5_ok {A : Option Addr} {n c : Nat} {bs : List UInt8} {w : World} (hb : BytesIn w A bs) (hl : 128 ≤ bs.length) (hn : bs.length = n) :
    Calls Tryd.prog 62 #[.slice A n c] w fun r w' => (∃ ws : List UInt64, ws.length = 80 ∧ r = .returned (.agg (w64 ws))) ∧ Below w.heap.size w w' := by
  obtain ⟨b0, hb0⟩ : ∃ b, bs[0]? = some b := ⟨_, List.getElem?_eq_getElem (by omega)⟩
  obtain ⟨gB, oB, rfl, _, _⟩ := hb 0 b0 hb0
  have HB := hid (show ∀ X i, Below w.heap.size w X → i < 128 → X.cell? ⟨gB, oB + i, none⟩ = some (.int .u8 (((bs.getD i 0).toNat : Nat) : Int)) from fun X i hX hi => by
    have hg := List.getElem?_eq_getElem (l := bs) (i := i) (by omega)
    obtain ⟨g, o, e, hg2, hc⟩ := hb i _ hg
    cases e
    rw [(hX.cell (p := ⟨gB, oB + i, none⟩) hg2).trans hc, List.getD_eq_getElem?_getD, hg]
    rfl)
  have hn128 : 128 ≤ n := by omega
  clear hb hb0 hn
  have tok : True := trivial
  go_enter Tryd.func62, Tryd.ntmps62
  go_wp2_with (first | (have _t := tok; refine wpList_alloc 113 rfl rfl (.agg (w64 (List.replicate 80 0))) zero80w ?_; intro g2 W1 h1 hl1 hg1 hW1; have H1 := hid ((St.start w).newBlk hW1 hg1 h1); clear h1 hl1 hg1 hW1 tok) | (refine wpList_alloc 113 rfl rfl (.agg (w64 (List.replicate 80 0))) zero80w ?_; intro g3 W2 h1 hl1 hg1 hW1; have H2 := hid (H1.out.newBlk hW1 hg1 h1); clear h1 hl1 hg1 hW1))
  go_loopw [4, 8] (fun _ v X => ∃ (i : Nat) (l : List UInt64), i ≤ 128 ∧ v = .int .i64 i ∧ Hid (l.length = 80) ∧ Hid (St w [Blk g3 (w64 l) 113, Blk g2 (w64 (List.replicate 80 0)) 113] X)) (fun _ v _ => 128 - (intOf v).toNat)
  case atStart => exact ⟨0, List.replicate 80 0, Nat.zero_le _, rfl, hid (List.length_replicate), H2⟩
  case round =>
    clear H1 H2
    obtain ⟨i, l, hi, rfl, HL, HS⟩ := hrel
    by_cases hlt : i < 128
    · have e1 : (i : Int) < 128 := by omega
      have e0 : (0 : Int) ≤ (i : Int) := by omega
      obtain ⟨q, hq⟩ : ∃ q, q = i / 8 := ⟨_, rfl⟩
      have em : (i : Int) / 8 = (q : Int) := by omega
      have hq1 : (q : Int) < 80 := by omega
      have hq2 : q < 80 := by omega
      have hin : (i : Int) < (n : Int) := by omega
      obtain ⟨x, hx⟩ : ∃ x, x = l.getD q 0 := ⟨_, rfl⟩
      obtain ⟨b, hb⟩ : ∃ b, b = bs.getD i 0 := ⟨_, rfl⟩
      obtain ⟨y, hy⟩ : ∃ y, y = UInt64.ofNat (x.toNat * 256 % 18446744073709551616 ||| b.toNat) := ⟨_, rfl⟩
      have SH : bits .or .u64 (IntKind.u64.wrap ((x.toNat : Int) * 256)) (b.toNat : Int) = (y.toNat : Int) := by rw [hy]; exact shl64 x b
      have hbm : IntKind.u64.wrap (b.toNat : Int) = (b.toNat : Int) := by have := b.toNat_lt; rw [wrapU]; omega
      have HC := hid (show ∀ X, St w [Blk g3 (w64 l) 113, Blk g2 (w64 (List.replicate 80 0)) 113] X → X.cell? ⟨g3, q, none⟩ = some (.int .u64 (x.toNat : Int)) ∧ X.cell? ⟨gB, oB + i, none⟩ = some (.int .u8 (b.toNat : Int)) from fun X hX => ⟨by rw [hx]; exact lblk_cell hX (by rw [HL.out]; exact hq2), by rw [hb]; exact HB.out X i hX.below hlt⟩)
      clear hx hb hy hq
      go_wp2_with fail
      refine wp_region_ord [14] [(0, 1), (1, 1), (2, 1), (3, 1), (4, 1), (5, 1), (6, 1), (7, 1), (8, 1), (9, 1), (10, 1), (11, 1), (12, 1), (13, 1), (14, 2)] (fun X => St w [Blk g3 (w64 l) 113, Blk g2 (w64 (List.replicate 80 0)) 113] X) (by kernel_rfl) (by kernel_rfl) (fun d _ c _ _ h => by cases d <;> exact h) (HS.out.turn (Below.drew (Below.refl _ _))) (fun X hXe hX => ?_)
      clear hXe HS
      repeat (apply wpOrd_class; ((· first | (rw [List.getElem?_toArray, List.getElem?_cons_zero]; done) | (simp only [List.getElem?_toArray, List.getElem?_cons_succ, List.getElem?_cons_zero]; exact rfl))); (· exact rfl); intro K hK; apply Exists.intro; refine And.intro (fun X' hX' => ?_) ?_; (· obtain ⟨hq1, hq2⟩ := HC.out _ hX'; clear hX'; go_simp; (try go_bits); first | done | exact rfl | exact ⟨rfl, rfl⟩); go_simp; refine hK _ _ ?_; clear hK K)
      obtain ⟨c3, _⟩ := HC.out X hX
      have f3 := frozen_of_row X g3 q _ _ hX.blk
      (apply wpOrd_comes; ((· first | (rw [List.getElem?_toArray, List.getElem?_cons_zero]; done) | (simp only [List.getElem?_toArray, List.getElem?_cons_succ, List.getElem?_cons_zero]; exact rfl))); intro N hN)
      go_wp2_with fail
      have H3 := hid (hX.setCell q (.int .u64 (y.toNat : Int)))
      rw [w64_set] at H3
      clear hX c3 f3
      refine hN _ _ (fun h => by cases h) ?_
      clear hN N
      refine wpOrd_done ?_
      go_wp2_with fail
      go_roundw
      case rel => exact ⟨i + 1, l.set q y, by omega, by go_num, hid (by rw [List.length_set]; exact HL.out), H3⟩
      case measure => (simp [intOf] <;> omega)
    · have e1 : ¬ (i : Int) < 128 := by omega
      obtain rfl : i = 128 := by omega
      go_wp2_with fail
      go_loopw [5, 6, 7] (fun v _ _ X => ∃ (k : Nat) (l : List UInt64), 16 ≤ k ∧ k ≤ 80 ∧ v = .int .i64 k ∧ Hid (l.length = 80) ∧ Hid (St w [Blk g3 (w64 l) 113, Blk g2 (w64 (List.replicate 80 0)) 113] X)) (fun v _ _ _ => 80 - (intOf v).toNat)
      case atStart => exact ⟨16, l, Nat.le_refl _, by omega, rfl, HL, HS⟩
      case round =>
        clear HS HL
        obtain ⟨k, l, hk16, hk80, rfl, HL, HS⟩ := hrel
        by_cases hlt : k < 80
        · have e1 : (k : Int) < 80 := by omega
          have e0 : (0 : Int) ≤ (k : Int) := by omega
          obtain ⟨p0, hp0⟩ : ∃ p, p = k - 16 := ⟨_, rfl⟩
          obtain ⟨p1, hp1⟩ : ∃ p, p = k - 15 := ⟨_, rfl⟩
          obtain ⟨p2, hp2⟩ : ∃ p, p = k - 7 := ⟨_, rfl⟩
          obtain ⟨p3, hp3⟩ : ∃ p, p = k - 2 := ⟨_, rfl⟩
          have em0 : (k : Int) - 16 = (p0 : Int) := by omega
          have em1 : (k : Int) - 15 = (p1 : Int) := by omega
          have em2 : (k : Int) - 7 = (p2 : Int) := by omega
          have em3 : (k : Int) - 2 = (p3 : Int) := by omega
          have hl0 : (p0 : Int) < 80 := by omega
          have hl1 : (p1 : Int) < 80 := by omega
          have hl2 : (p2 : Int) < 80 := by omega
          have hl3 : (p3 : Int) < 80 := by omega
          obtain ⟨x0, hx0⟩ : ∃ x, x = l.getD p0 0 := ⟨_, rfl⟩
          obtain ⟨x1, hx1⟩ : ∃ x, x = l.getD p1 0 := ⟨_, rfl⟩
          obtain ⟨x2, hx2⟩ : ∃ x, x = l.getD p2 0 := ⟨_, rfl⟩
          obtain ⟨x3, hx3⟩ : ∃ x, x = l.getD p3 0 := ⟨_, rfl⟩
          have HR1 := hid (fun X => turn64_any x1 (n := 1) (by decide) (ni := 1) rfl X)
          have HR2 := hid (fun X => turn64_any x1 (n := 8) (by decide) (ni := 8) rfl X)
          have HR3 := hid (fun X => turn64_any x3 (n := 19) (by decide) (ni := 19) rfl X)
          have HR4 := hid (fun X => turn64_any x3 (n := 61) (by decide) (ni := 61) rfl X)
          generalize rotr64 x1 1 = r1 at HR1
          generalize rotr64 x1 8 = r2 at HR2
          generalize rotr64 x3 19 = r3 at HR3
          generalize rotr64 x3 61 = r4 at HR4
          have S1 := (show (x1.toNat : Int) / 128 = ((UInt64.ofNat (x1.toNat / 128)).toNat : Int) from shr64 x1 128)
          have S3 := (show (x3.toNat : Int) / 64 = ((UInt64.ofNat (x3.toNat / 64)).toNat : Int) from shr64 x3 64)
          have X1 := xor64 r1 r2
          have X3 := xor64 r3 r4
          generalize UInt64.ofNat (x1.toNat / 128) = s1 at S1
          generalize UInt64.ofNat (x3.toNat / 64) = s3 at S3
          generalize (r1 ^^^ r2) = a1 at X1
          generalize (r3 ^^^ r4) = a3 at X3
          have X2 := xor64 a1 s1
          have X4 := xor64 a3 s3
          generalize (a1 ^^^ s1) = a2 at X2
          generalize (a3 ^^^ s3) = a4 at X4
          have A1 := add64 x0 a2
          generalize (x0 + a2) = t1 at A1
          have A2 := add64 t1 x2
          generalize (t1 + x2) = t2 at A2
          have A3 := add64 t2 a4
          generalize (t2 + a4) = t3 at A3
          have HC := hid (show ∀ X, St w [Blk g3 (w64 l) 113, Blk g2 (w64 (List.replicate 80 0)) 113] X → X.cell? ⟨g3, p0, none⟩ = some (.int .u64 (x0.toNat : Int)) ∧ X.cell? ⟨g3, p1, none⟩ = some (.int .u64 (x1.toNat : Int)) ∧ X.cell? ⟨g3, p2, none⟩ = some (.int .u64 (x2.toNat : Int)) ∧ X.cell? ⟨g3, p3, none⟩ = some (.int .u64 (x3.toNat : Int)) from fun X hX =>
            ⟨by rw [hx0]; exact lblk_cell hX (by rw [HL.out]; omega), by rw [hx1]; exact lblk_cell hX (by rw [HL.out]; omega), by rw [hx2]; exact lblk_cell hX (by rw [HL.out]; omega), by rw [hx3]; exact lblk_cell hX (by rw [HL.out]; omega)⟩)
          clear hx0 hx1 hx2 hx3 hp0 hp1 hp2 hp3
          go_wp2_with fail
          refine wp_region_ord [] [(0, 1), (1, 1), (2, 1), (3, 1), (4, 1), (5, 1), (6, 1), (7, 1), (8, 1), (9, 1)] (fun X => St w [Blk g3 (w64 l) 113, Blk g2 (w64 (List.replicate 80 0)) 113] X) (by kernel_rfl) (by kernel_rfl) (fun d _ c _ _ h => by cases d <;> exact h) (HS.out.turn (Below.drew (Below.refl _ _))) (fun X hXe hX => ?_)
          clear hXe HS
          repeat (apply wpOrd_class; ((· first | (rw [List.getElem?_toArray, List.getElem?_cons_zero]; done) | (simp only [List.getElem?_toArray, List.getElem?_cons_succ, List.getElem?_cons_zero]; exact rfl))); (· exact rfl); intro K hK; apply Exists.intro; refine And.intro (fun X' hX' => ?_) ?_; (· obtain ⟨hq1, hq2, hq3, hq4⟩ := HC.out _ hX'; clear hX'; go_simp; (try go_bits); first | done | exact rfl | exact ⟨rfl, rfl⟩); go_simp; refine hK _ _ ?_; clear hK K)
          refine wpOrd_done ?_
          have HX := hid hX
          clear hX
          go_wp2_with fail
          refine wp_region_ord [29] [(0, 1), (1, 1), (2, 1), (3, 1), (4, 1), (5, 1), (7, 1), (10, 1), (11, 1), (14, 1), (15, 1), (16, 1), (17, 1), (19, 1), (21, 1), (24, 1), (25, 1), (6, 2), (8, 2), (9, 1), (12, 1), (13, 1), (18, 1), (20, 2), (22, 2), (23, 1), (26, 1), (27, 1), (28, 1), (29, 2)] (fun X => St w [Blk g3 (w64 l) 113, Blk g2 (w64 (List.replicate 80 0)) 113] X) (by kernel_rfl) (by kernel_rfl) (fun d _ c _ _ h => by cases d <;> exact h) (HX.out.turn (Below.drew (Below.refl _ _))) (fun X hXe hX => ?_)
          clear hXe HX
          repeat (apply wpOrd_class; ((· first | (rw [List.getElem?_toArray, List.getElem?_cons_zero]; done) | (simp only [List.getElem?_toArray, List.getElem?_cons_succ, List.getElem?_cons_zero]; exact rfl))); (· exact rfl); intro K hK; apply Exists.intro; refine And.intro (fun X' hX' => ?_) ?_; (· obtain ⟨hq1, hq2, hq3, hq4⟩ := HC.out _ hX'; clear hX'; go_simp; (try go_bits); first | done | exact rfl | exact ⟨rfl, rfl⟩); go_simp; refine hK _ _ ?_; clear hK K)
          (apply wpOrd_comes; ((· first | (rw [List.getElem?_toArray, List.getElem?_cons_zero]; done) | (simp only [List.getElem?_toArray, List.getElem?_cons_succ, List.getElem?_cons_zero]; exact rfl))); intro N hN)
          go_wp2_with (go_at_call 63; (with_reducible refine (HR1.out _).mono ?_); rintro v X2 ⟨rfl, rfl⟩)
          refine hN _ _ (fun _ => hX) ?_
          clear hN N
          (apply wpOrd_comes; ((· first | (rw [List.getElem?_toArray, List.getElem?_cons_zero]; done) | (simp only [List.getElem?_toArray, List.getElem?_cons_succ, List.getElem?_cons_zero]; exact rfl))); intro N hN)
          go_wp2_with (go_at_call 63; (with_reducible refine (HR2.out _).mono ?_); rintro v X2 ⟨rfl, rfl⟩)
          refine hN _ _ (fun _ => hX) ?_
          clear hN N
          repeat (apply wpOrd_class; ((· first | (rw [List.getElem?_toArray, List.getElem?_cons_zero]; done) | (simp only [List.getElem?_toArray, List.getElem?_cons_succ, List.getElem?_cons_zero]; exact rfl))); (· exact rfl); intro K hK; apply Exists.intro; refine And.intro (fun X' hX' => ?_) ?_; (· obtain ⟨hq1, hq2, hq3, hq4⟩ := HC.out _ hX'; clear hX'; go_simp; (try go_bits); first | done | exact rfl | exact ⟨rfl, rfl⟩); go_simp; refine hK _ _ ?_; clear hK K)
          (apply wpOrd_comes; ((· first | (rw [List.getElem?_toArray, List.getElem?_cons_zero]; done) | (simp only [List.getElem?_toArray, List.getElem?_cons_succ, List.getElem?_cons_zero]; exact rfl))); intro N hN)
          go_wp2_with (go_at_call 63; (with_reducible refine (HR3.out _).mono ?_); rintro v X2 ⟨rfl, rfl⟩)
          refine hN _ _ (fun _ => hX) ?_
          clear hN N
          (apply wpOrd_comes; ((· first | (rw [List.getElem?_toArray, List.getElem?_cons_zero]; done) | (simp only [List.getElem?_toArray, List.getElem?_cons_succ, List.getElem?_cons_zero]; exact rfl))); intro N hN)
          go_wp2_with (go_at_call 63; (with_reducible refine (HR4.out _).mono ?_); rintro v X2 ⟨rfl, rfl⟩)
          refine hN _ _ (fun _ => hX) ?_
          clear hN N
          repeat (apply wpOrd_class; ((· first | (rw [List.getElem?_toArray, List.getElem?_cons_zero]; done) | (simp only [List.getElem?_toArray, List.getElem?_cons_succ, List.getElem?_cons_zero]; exact rfl))); (· exact rfl); intro K hK; apply Exists.intro; refine And.intro (fun X' hX' => ?_) ?_; (· obtain ⟨hq1, hq2, hq3, hq4⟩ := HC.out _ hX'; clear hX'; go_simp; (try go_bits); first | done | exact rfl | exact ⟨rfl, rfl⟩); go_simp; refine hK _ _ ?_; clear hK K)
          have c3 := lblk_cell hX (i := k) (by rw [HL.out]; omega)
          have f3 := frozen_of_row X g3 k _ _ hX.blk
          (apply wpOrd_comes; ((· first | (rw [List.getElem?_toArray, List.getElem?_cons_zero]; done) | (simp only [List.getElem?_toArray, List.getElem?_cons_succ, List.getElem?_cons_zero]; exact rfl))); intro N hN)
          go_wp2_with fail
          have H3 := hid (hX.setCell k (.int .u64 (t3.toNat : Int)))
          rw [w64_set] at H3
          clear hX c3 f3
          refine hN _ _ (fun h => by cases h) ?_
          clear hN N
          refine wpOrd_done ?_
          go_wp2_with fail
          go_roundw
          case rel => exact ⟨k + 1, l.set k t3, by omega, by omega, by go_num, hid (by rw [List.length_set]; exact HL.out), H3⟩
          case measure => (simp [intOf] <;> omega)
        · have e1 : ¬ (k : Int) < 80 := by omega
          obtain rfl : k = 80 := by omega
          have HZ := hid ((w64_size l).trans HL.out)
          have HZ0 := hid (show (w64 (List.replicate 80 0)).size = 80 by rw [w64_size, List.length_replicate])
          have LB : (loadK 113 (.pointer (some ⟨g3, 0, none⟩))).run Tryd.prog wr = .ok (.value (.agg (w64 l))) wr := run_loadK_box HS.out.blk Tryd.underlying113 rfl size80w HZ.out
          go_wp2_with (refine wpList_store_box 113 _ _ rfl g2 rfl rfl (w64 l) rfl 80 size80w HZ.out (w64_one _) 113 _ HS.out.at2.blk HZ0.out ?_; intro W5 hB5 hT5 hs5; have H5 := hid (HS.out.at2.put hB5 hT5))
          exact bodyPost_ret (results_cell rfl _ _ _ g2 113 (w64 _) (0, 0) rfl hB5 Tryd.underlying113 (by rw [HZ.out]; exact size80w)) rfl ⟨⟨l, HL.out, rfl⟩, H5.out.below⟩
end Go.Proofs.YtnakbdgoaepehaaDoor
