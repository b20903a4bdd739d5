/- A block as 64 words. -/
import Derived.Test.YtnakbdgoaepehaaDoorShaTurn
import Derived.Test.YtnakbdgoaepehaaDoorShaBase
import Derived.Test.YtnakbdgoaepehaaDoorCopyB
namespace Go.Cu
open Go Go.RowKit
/-- Words as cells. -/
def w32 (l : List UInt32) : Array Value := (l.map fun x => Value.int .u32 x.toNat).toArray
theorem w32_size (l : List UInt32) : (w32 l).size = l.length := by simp [w32]
theorem w32_get (l : List UInt32) {i : Nat} (h : i < l.length) : (w32 l)[i]? = some (.int .u32 ((l.getD i 0).toNat : Int)) := by simp [w32, h]
theorem w32_set (l : List UInt32) (i : Nat) (x : UInt32) : (w32 l).setIfInBounds i (.int .u32 (x.toNat : Int)) = w32 (l.set i x) := by
  apply Array.ext_getElem?
  intro j
  simp only [w32, Array.getElem?_setIfInBounds, List.getElem?_toArray, List.getElem?_map, List.getElem?_set, List.size_toArray, List.length_map]
  by_cases h : i = j
  · subst h
    by_cases h2 : i < l.length <;> simp [h2]
  · simp [h]
theorem w32_one (l : List UInt32) : ∀ u ∈ (w32 l).toList, u.oneCell' = true := by
  intro u hu
  simp only [w32, List.mem_map] at hu
  obtain ⟨b, _, rfl⟩ := hu
  rfl
def shl8 (x : UInt32) (b : UInt8) : UInt32 := UInt32.ofNat (x.toNat * 256 % 4294967296 ||| b.toNat)
/-- The words of a block, so many bytes in. -/
def wordsTo (bs : List UInt8) : Nat → List UInt32
  | 0 => List.replicate 64 0
  | i + 1 => (wordsTo bs i).set (i / 4) (shl8 ((wordsTo bs i).getD (i / 4) 0) (bs.getD i 0))
def mixW (l : List UInt32) (i : Nat) : UInt32 := l.getD (i - 16) 0 + smallW (l.getD (i - 15) 0) 7 18 3 + l.getD (i - 7) 0 + smallW (l.getD (i - 2) 0) 17 19 10
/-- .. and so many of the others. -/
def spreadTo (bs : List UInt8) : Nat → List UInt32
  | 0 => wordsTo bs 64
  | i + 1 => (spreadTo bs i).set (16 + i) (mixW (spreadTo bs i) (16 + i))
def spreadW (bs : List UInt8) : List UInt32 := spreadTo bs 48
theorem wordsTo_len (bs : List UInt8) : ∀ i, (wordsTo bs i).length = 64
  | 0 => by simp [wordsTo]
  | i + 1 => by rw [wordsTo, List.length_set, wordsTo_len bs i]
theorem spreadTo_len (bs : List UInt8) : ∀ i, (spreadTo bs i).length = 64
  | 0 => wordsTo_len bs 64
  | i + 1 => by rw [spreadTo, List.length_set, spreadTo_len bs i]
theorem shl8_nat (x : UInt32) (b : UInt8) : bits .or .u32 ((x.toNat : Int) * 256 % 4294967296) (b.toNat : Int) = ((shl8 x b).toNat : Int) := by
  have hb := b.toNat_lt
  have e1 : (x.toNat : Int) * 256 % 4294967296 = ((x.toNat * 256 % 4294967296 : Nat) : Int) := by simp
  rw [e1, bits_or_u32 (Nat.mod_lt _ (by decide)) (by omega)]
  unfold shl8
  have h3 : x.toNat * 256 % 4294967296 ||| b.toNat < 2 ^ 32 := Nat.or_lt_two_pow (by omega) (by omega)
  rw [UInt32.toNat_ofNat', Nat.mod_eq_of_lt h3]
theorem add_u32 (a b : UInt32) : ((a.toNat : Int) + (b.toNat : Int)) % 4294967296 = ((a + b).toNat : Int) := by
  rw [UInt32.toNat_add]
  omega
end Go.Cu
namespace Go.Proofs.YtnakbdgoaepehaaDoor
open Go.RowKit Go.Cu
set_option maxRecDepth 20000 in
theorem zero64w (W : World) : (zeroValue 123).run Tryd.prog W = .ok (.agg (w32 (List.replicate 64 0))) W := by kernel_rfl
theorem size64w : (Tryd.prog.info? 123).map (·.size) = some 64 := by kernel_rfl
@[go_sem ↓] theorem ldktW64 (a : Act) (dst : Option Tmp) (x : Operand) (ty : TypeId) (pos : String) (after : Array Edge) (guard : Option (Nat × Bool)) :
      execOp a.eval { dst, op := .load 123 x, type := ty, pos, after, guard } = loadK 123 (a.eval x) := rfl
theorem wblk_cell {W0 W : World} {L : List Atm} {g t i : Nat} {l : List UInt32} (h : St W0 (Blk g (w32 l) t :: L) W) (hi : i < l.length) : W.cell? ⟨g, i, none⟩ = some (.int .u32 ((l.getD i 0).toNat : Int)) := (cell_of_row W g i _ _ _ h.blk).trans (w32_get l hi)
set_option maxRecDepth 20000 in
set_option maxHeartbeats 4000000 in
theorem spread_ok {A : Option Addr} {n c : Nat} {bs : List UInt8} {w : World} (hb : BytesIn w A bs) (hl : 64 ≤ bs.length) (hn : bs.length = n) (hc : n ≤ c) (hc2 : c ≤ maxLen) :
    Calls Tryd.prog 70 #[.slice A n c] w fun r w' => r = .returned (.agg (w32 (spreadW bs))) ∧ Below w.heap.size w w' := by
  obtain ⟨b0, hb0⟩ : ∃ b, bs[0]? = some b := ⟨_, List.getElem?_eq_getElem (by omega)⟩
  obtain ⟨gB, oB, rfl, _, _⟩ := hb 0 b0 hb0
  have HB := hid (show ∀ X i, Below w.heap.size w X → i < 64 → X.cell? ⟨gB, oB + i, none⟩ = some (.int .u8 (((bs.getD i 0).toNat : Nat) : Int)) from fun X i hX hi => by
    have hg := List.getElem?_eq_getElem (l := bs) (i := i) (by omega)
    obtain ⟨g, o, e, hg2, hc⟩ := hb i _ hg
    cases e
    rw [(hX.cell (p := ⟨gB, oB + i, none⟩) hg2).trans hc, List.getD_eq_getElem?_getD, hg]
    rfl)
  have h64 : (64 : Int) ≤ (n : Int) := by omega
  have h64c : (64 : Int) ≤ (c : Int) := by omega
  have h64n : 64 ≤ c := by omega
  unfold maxLen at hc2
  clear hb hb0
  have tok : True := trivial
  go_enter Tryd.func70, Tryd.ntmps70
  go_wp2_with (first | (have _t := tok; refine wpList_alloc 123 rfl rfl (.agg (w32 (List.replicate 64 0))) zero64w ?_; intro g2 W1 h1 hl1 hg1 hW1; have H1 := hid ((St.start w).newBlk hW1 hg1 h1); clear h1 hl1 hg1 hW1 tok) | (refine wpList_alloc 123 rfl rfl (.agg (w32 (List.replicate 64 0))) zero64w ?_; intro g3 W2 h1 hl1 hg1 hW1; have H2 := hid (H1.out.newBlk hW1 hg1 h1); clear h1 hl1 hg1 hW1))
  go_loopw [4, 9] (fun _ v X => ∃ i : Nat, i ≤ 64 ∧ v = .int .i64 i ∧ Hid (St w [Blk g3 (w32 (wordsTo bs i)) 123, Blk g2 (w32 (List.replicate 64 0)) 123] X)) (fun _ v _ => 64 - (intOf v).toNat)
  case atStart => exact ⟨0, Nat.zero_le _, rfl, H2⟩
  case round =>
    clear H1 H2
    obtain ⟨i, hi, rfl, HS⟩ := hrel
    by_cases hlt : i < 64
    · have e1 : (i : Int) < 64 := by omega
      have e0 : (0 : Int) ≤ (i : Int) := by omega
      obtain ⟨q, hq⟩ : ∃ q, q = i / 4 := ⟨_, rfl⟩
      have em : (i : Int) / 4 = (q : Int) := by omega
      have hq1 : (q : Int) < 64 := by omega
      have hq2 : q < 64 := by omega
      have hin : (i : Int) < (n : Int) := by omega
      obtain ⟨x, hx⟩ : ∃ x, x = (wordsTo bs i).getD q 0 := ⟨_, rfl⟩
      obtain ⟨b, hb⟩ : ∃ b, b = bs.getD i 0 := ⟨_, rfl⟩
      obtain ⟨y, hy⟩ : ∃ y, y = shl8 x b := ⟨_, rfl⟩
      have HY := hid (show (wordsTo bs i).set q y = wordsTo bs (i + 1) by rw [hy, hx, hb, hq]; rfl)
      have SH : bits .or .u32 ((x.toNat : Int) * 256 % 4294967296) (b.toNat : Int) = (y.toNat : Int) := by rw [hy]; exact shl8_nat x b
      have hbm : (b.toNat : Int) % 4294967296 = (b.toNat : Int) := by have := b.toNat_lt; omega
      have HC := hid (show ∀ X, St w [Blk g3 (w32 (wordsTo bs i)) 123, Blk g2 (w32 (List.replicate 64 0)) 123] X → X.cell? ⟨g3, q, none⟩ = some (.int .u32 (x.toNat : Int)) ∧ X.cell? ⟨gB, oB + i, none⟩ = some (.int .u8 (b.toNat : Int)) from fun X hX => ⟨by rw [hx]; exact wblk_cell hX (by rw [wordsTo_len]; exact hq2), by rw [hb]; exact HB.out X i hX.below hlt⟩)
      clear hx hb hy hq
      go_wp2_with fail
      refine wp_region_ord [14] [(0, 1), (1, 1), (2, 1), (3, 1), (4, 1), (5, 1), (6, 1), (7, 1), (8, 1), (9, 1), (10, 1), (11, 1), (12, 1), (13, 1), (14, 2)] (fun X => St w [Blk g3 (w32 (wordsTo bs i)) 123, Blk g2 (w32 (List.replicate 64 0)) 123] X) (by kernel_rfl) (by kernel_rfl) (fun d _ c _ _ h => by cases d <;> exact h) (HS.out.turn (Below.drew (Below.refl _ _))) (fun X hXe hX => ?_)
      clear hXe HS
      repeat (apply wpOrd_class; ((· first | (rw [List.getElem?_toArray, List.getElem?_cons_zero]; done) | (simp only [List.getElem?_toArray, List.getElem?_cons_succ, List.getElem?_cons_zero]; exact rfl))); (· exact rfl); intro K hK; apply Exists.intro; refine And.intro (fun X' hX' => ?_) ?_; (· obtain ⟨hq1, hq2⟩ := HC.out _ hX'; clear hX'; go_simp; (try go_bits); first | done | exact rfl | exact ⟨rfl, rfl⟩); go_simp; refine hK _ _ ?_; clear hK K)
      obtain ⟨c3, _⟩ := HC.out X hX
      have f3 := frozen_of_row X g3 q _ _ hX.blk
      (apply wpOrd_comes; ((· first | (rw [List.getElem?_toArray, List.getElem?_cons_zero]; done) | (simp only [List.getElem?_toArray, List.getElem?_cons_succ, List.getElem?_cons_zero]; exact rfl))); intro N hN)
      go_wp2_with fail
      have H3 := hid (hX.setCell q (.int .u32 (y.toNat : Int)))
      rw [w32_set, HY.out] at H3
      clear hX c3 f3
      refine hN _ _ (fun h => by cases h) ?_
      clear hN N
      refine wpOrd_done ?_
      go_wp2_with fail
      go_roundw
      case rel => exact ⟨i + 1, by omega, by go_num, H3⟩
      case measure => simp [intOf]; omega
    · have e1 : ¬ (i : Int) < 64 := by omega
      obtain rfl : i = 64 := by omega
      go_wp2_with fail
      go_loopw [5] (fun v X => ∃ i : Nat, i ≤ 48 ∧ v = .int .i64 (16 + i : Nat) ∧ Hid (St w [Blk g3 (w32 (spreadTo bs i)) 123, Blk g2 (w32 (List.replicate 64 0)) 123] X)) (fun v _ => 64 - (intOf v).toNat)
      case atStart => exact ⟨0, Nat.zero_le _, rfl, HS⟩
      case round =>
        clear HS
        obtain ⟨i, hi, rfl, HS⟩ := hrel
        obtain ⟨k, hk⟩ : ∃ k, k = 16 + i := ⟨_, rfl⟩
        rw [← hk]
        by_cases hlt : i < 48
        · have e1 : (k : Int) < 64 := by omega
          have e0 : (0 : Int) ≤ (k : Int) := by omega
          obtain ⟨p0, hp0⟩ : ∃ p, p = k - 16 := ⟨_, rfl⟩
          obtain ⟨p1, hp1⟩ : ∃ p, p = k - 15 := ⟨_, rfl⟩
          obtain ⟨p2, hp2⟩ : ∃ p, p = k - 7 := ⟨_, rfl⟩
          obtain ⟨p3, hp3⟩ : ∃ p, p = k - 2 := ⟨_, rfl⟩
          have em0 : (k : Int) - 16 = (p0 : Int) := by omega
          have em1 : (k : Int) - 15 = (p1 : Int) := by omega
          have em2 : (k : Int) - 7 = (p2 : Int) := by omega
          have em3 : (k : Int) - 2 = (p3 : Int) := by omega
          have hl0 : (p0 : Int) < 64 := by omega
          have hl1 : (p1 : Int) < 64 := by omega
          have hl2 : (p2 : Int) < 64 := by omega
          have hl3 : (p3 : Int) < 64 := by omega
          obtain ⟨x0, hx0⟩ : ∃ x, x = (spreadTo bs i).getD p0 0 := ⟨_, rfl⟩
          obtain ⟨x1, hx1⟩ : ∃ x, x = (spreadTo bs i).getD p1 0 := ⟨_, rfl⟩
          obtain ⟨x2, hx2⟩ : ∃ x, x = (spreadTo bs i).getD p2 0 := ⟨_, rfl⟩
          obtain ⟨x3, hx3⟩ : ∃ x, x = (spreadTo bs i).getD p3 0 := ⟨_, rfl⟩
          obtain ⟨s1, hs1⟩ : ∃ x, x = smallW x1 7 18 3 := ⟨_, rfl⟩
          obtain ⟨s3, hs3⟩ : ∃ x, x = smallW x3 17 19 10 := ⟨_, rfl⟩
          obtain ⟨t1, ht1⟩ : ∃ x, x = x0 + s1 := ⟨_, rfl⟩
          obtain ⟨t2, ht2⟩ : ∃ x, x = t1 + x2 := ⟨_, rfl⟩
          obtain ⟨t3, ht3⟩ : ∃ x, x = t2 + s3 := ⟨_, rfl⟩
          have HY := hid (show (spreadTo bs i).set k t3 = spreadTo bs (i + 1) by rw [spreadTo, ht3, ht2, ht1, hs1, hs3, hx0, hx1, hx2, hx3, hp0, hp1, hp2, hp3, hk]; rfl)
          have A1 : ((x0.toNat : Int) + (s1.toNat : Int)) % 4294967296 = (t1.toNat : Int) := by rw [ht1]; exact add_u32 _ _
          have A2 : ((t1.toNat : Int) + (x2.toNat : Int)) % 4294967296 = (t2.toNat : Int) := by rw [ht2]; exact add_u32 _ _
          have A3 : ((t2.toNat : Int) + (s3.toNat : Int)) % 4294967296 = (t3.toNat : Int) := by rw [ht3]; exact add_u32 _ _
          have HK1 := hid (show ∀ X, Calls Tryd.prog 74 #[.int .u32 x1.toNat, .int .i64 7, .int .i64 18, .int .i64 3] X fun v w' => v = .returned (.int .u32 s1.toNat) ∧ Below X.heap.size X w' from fun X => by rw [hs1]; exact small_ok x1 (p := 7) (q := 18) (r := 3) (by decide) (by decide) (by decide) rfl rfl rfl X)
          have HK3 := hid (show ∀ X, Calls Tryd.prog 74 #[.int .u32 x3.toNat, .int .i64 17, .int .i64 19, .int .i64 10] X fun v w' => v = .returned (.int .u32 s3.toNat) ∧ Below X.heap.size X w' from fun X => by rw [hs3]; exact small_ok x3 (p := 17) (q := 19) (r := 10) (by decide) (by decide) (by decide) rfl rfl rfl X)
          have HC := hid (show ∀ X, St w [Blk g3 (w32 (spreadTo bs i)) 123, Blk g2 (w32 (List.replicate 64 0)) 123] X → X.cell? ⟨g3, p0, none⟩ = some (.int .u32 (x0.toNat : Int)) ∧ X.cell? ⟨g3, p1, none⟩ = some (.int .u32 (x1.toNat : Int)) ∧ X.cell? ⟨g3, p2, none⟩ = some (.int .u32 (x2.toNat : Int)) ∧ X.cell? ⟨g3, p3, none⟩ = some (.int .u32 (x3.toNat : Int)) from fun X hX =>
            ⟨by rw [hx0]; exact wblk_cell hX (by rw [spreadTo_len]; omega), by rw [hx1]; exact wblk_cell hX (by rw [spreadTo_len]; omega), by rw [hx2]; exact wblk_cell hX (by rw [spreadTo_len]; omega), by rw [hx3]; exact wblk_cell hX (by rw [spreadTo_len]; omega)⟩)
          have HK := hid hk
          clear hx0 hx1 hx2 hx3 hs1 hs3 ht1 ht2 ht3 hp0 hp1 hp2 hp3 hk
          go_wp2_with fail
          refine wp_region_ord [23] [(0, 1), (1, 1), (2, 1), (3, 1), (4, 1), (5, 1), (6, 1), (7, 1), (8, 1), (11, 1), (12, 1), (13, 1), (14, 1), (16, 1), (17, 1), (18, 1), (19, 1), (9, 2), (10, 1), (15, 1), (20, 2), (21, 1), (22, 1), (23, 2)] (fun X => St w [Blk g3 (w32 (spreadTo bs i)) 123, Blk g2 (w32 (List.replicate 64 0)) 123] X) (by kernel_rfl) (by kernel_rfl) (fun d _ c _ _ h => by cases d <;> exact h) (HS.out.turn (Below.drew (Below.refl _ _))) (fun X hXe hX => ?_)
          clear hXe HS
          repeat (apply wpOrd_class; ((· first | (rw [List.getElem?_toArray, List.getElem?_cons_zero]; done) | (simp only [List.getElem?_toArray, List.getElem?_cons_succ, List.getElem?_cons_zero]; exact rfl))); (· exact rfl); intro K hK; apply Exists.intro; refine And.intro (fun X' hX' => ?_) ?_; (· obtain ⟨hq1, hq2, hq3, hq4⟩ := HC.out _ hX'; clear hX'; go_simp; (try go_bits); first | done | exact rfl | exact ⟨rfl, rfl⟩); go_simp; refine hK _ _ ?_; clear hK K)
          (apply wpOrd_comes; ((· first | (rw [List.getElem?_toArray, List.getElem?_cons_zero]; done) | (simp only [List.getElem?_toArray, List.getElem?_cons_succ, List.getElem?_cons_zero]; exact rfl))); intro N hN)
          go_wp2_with (go_at_call 74; (with_reducible refine (HK1.out _).mono ?_); rintro v X2 ⟨rfl, hb⟩; have hX2 := hX.turn hb; clear hb)
          refine hN _ _ (fun _ => hX2) ?_
          clear hN N
          repeat (apply wpOrd_class; ((· first | (rw [List.getElem?_toArray, List.getElem?_cons_zero]; done) | (simp only [List.getElem?_toArray, List.getElem?_cons_succ, List.getElem?_cons_zero]; exact rfl))); (· exact rfl); intro K hK; apply Exists.intro; refine And.intro (fun X' hX' => ?_) ?_; (· obtain ⟨hq1, hq2, hq3, hq4⟩ := HC.out _ hX'; clear hX'; go_simp; (try go_bits); first | done | exact rfl | exact ⟨rfl, rfl⟩); go_simp; refine hK _ _ ?_; clear hK K)
          (apply wpOrd_comes; ((· first | (rw [List.getElem?_toArray, List.getElem?_cons_zero]; done) | (simp only [List.getElem?_toArray, List.getElem?_cons_succ, List.getElem?_cons_zero]; exact rfl))); intro N hN)
          go_wp2_with (go_at_call 74; (with_reducible refine (HK3.out _).mono ?_); rintro v X3 ⟨rfl, hb⟩; have hX3 := hX2.turn hb; clear hb)
          refine hN _ _ (fun _ => hX3) ?_
          clear hN N hX hX2
          repeat (apply wpOrd_class; ((· first | (rw [List.getElem?_toArray, List.getElem?_cons_zero]; done) | (simp only [List.getElem?_toArray, List.getElem?_cons_succ, List.getElem?_cons_zero]; exact rfl))); (· exact rfl); intro K hK; apply Exists.intro; refine And.intro (fun X' hX' => ?_) ?_; (· obtain ⟨hq1, hq2, hq3, hq4⟩ := HC.out _ hX'; clear hX'; go_simp; (try go_bits); first | done | exact rfl | exact ⟨rfl, rfl⟩); go_simp; refine hK _ _ ?_; clear hK K)
          have c3 := wblk_cell hX3 (i := k) (by rw [spreadTo_len]; omega)
          have f3 := frozen_of_row X3 g3 k _ _ hX3.blk
          (apply wpOrd_comes; ((· first | (rw [List.getElem?_toArray, List.getElem?_cons_zero]; done) | (simp only [List.getElem?_toArray, List.getElem?_cons_succ, List.getElem?_cons_zero]; exact rfl))); intro N hN)
          go_wp2_with fail
          have H3 := hid (hX3.setCell k (.int .u32 (t3.toNat : Int)))
          rw [w32_set, HY.out] at H3
          clear hX3 c3 f3
          refine hN _ _ (fun h => by cases h) ?_
          clear hN N
          refine wpOrd_done ?_
          go_wp2_with fail
          go_roundw
          case rel => exact ⟨i + 1, by omega, by rw [HK.out]; go_num, H3⟩
          case measure => simp [intOf]; omega
        · have e1 : ¬ (k : Int) < 64 := by omega
          obtain rfl : i = 48 := by omega
          have HZ := hid ((w32_size (spreadTo bs 48)).trans (spreadTo_len bs 48))
          have HZ0 := hid (show (w32 (List.replicate 64 0)).size = 64 by rw [w32_size, List.length_replicate])
          have LB : (loadK 123 (.pointer (some ⟨g3, 0, none⟩))).run Tryd.prog wr = .ok (.value (.agg (w32 (spreadTo bs 48)))) wr := run_loadK_box HS.out.blk Tryd.underlying123 rfl size64w HZ.out
          go_wp2_with (refine wpList_store_box 123 _ _ rfl g2 rfl rfl (w32 (spreadTo bs 48)) rfl 64 size64w HZ.out (w32_one _) 123 _ HS.out.at2.blk HZ0.out ?_; intro W5 hB5 hT5 hs5; have H5 := hid (HS.out.at2.put hB5 hT5))
          exact bodyPost_ret (results_cell rfl _ _ _ g2 123 (w32 _) (0, 0) rfl hB5 Tryd.underlying123 (by rw [HZ.out]; exact size64w)) rfl ⟨rfl, H5.out.below⟩
end Go.Proofs.YtnakbdgoaepehaaDoor
