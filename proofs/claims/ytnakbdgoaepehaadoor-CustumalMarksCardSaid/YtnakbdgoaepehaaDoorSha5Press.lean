/- A block worked into the words of 64 bits. -/
import Derived.Test.YtnakbdgoaepehaaDoorSha5Spread
namespace Go.Cu
open Go Go.RowKit
/-- The program's two tables of this sum. -/
def Glob5 (W : World) : Prop := ∃ l0 l1 t0 f0 t1 f1, List.length l0 = 8 ∧ List.length l1 = 80 ∧ W.heap[0]? = some (.cells (w64 l0) t0 f0) ∧ W.heap[2]? = some (.cells (w64 l1) t1 f1)
theorem Glob5.below {W X : World} {n : Nat} (h : Glob5 W) (hb : Below n W X) (hn : 2 + 1 ≤ n) : Glob5 X := by
  obtain ⟨l0, l1, t0, f0, t1, f1, h8, h80, h0, h1⟩ := h
  exact ⟨l0, l1, t0, f0, t1, f1, h8, h80, (hb.block 0 (by omega)).trans h0, (hb.block 2 (by omega)).trans h1⟩
theorem Glob5.two {W : World} (h : Glob5 W) : 2 + 1 ≤ W.heap.size := by
  obtain ⟨_, _, _, _, _, _, _, _, _, h1⟩ := h
  have := heap_lt h1
  omega
theorem list8' {l : List UInt64} (h : l.length = 8) : l = [l.getD 0 0, l.getD 1 0, l.getD 2 0, l.getD 3 0, l.getD 4 0, l.getD 5 0, l.getD 6 0, l.getD 7 0] := by
  match l, h with
  | [a, b, c, d, e, f, g, i], _ => rfl
end Go.Cu
namespace Go.Proofs.YtnakbdgoaepehaaDoor
open Go.RowKit Go.Cu
set_option maxRecDepth 20000 in
theorem zero8l (W : World) : (zeroValue 91).run Tryd.prog W = .ok (.agg (w64 (List.replicate 8 0))) W := by kernel_rfl
theorem size8l : (Tryd.prog.info? 91).map (·.size) = some 8 := by kernel_rfl
@[go_sem ↓] theorem ldktW8L (a : Act) (dst : Option Tmp) (x : Operand) (ty : TypeId) (pos : String) (after : Array Edge) (guard : Option (Nat × Bool)) :
      execOp a.eval { dst, op := .load 91 x, type := ty, pos, after, guard } = loadK 91 (a.eval x) := rfl
@[go_sem ↓] theorem bdktW8L (a : Act) (dst : Option Tmp) (ps : Array (Nat × Operand)) (ty : TypeId) (pos : String) (after : Array Edge) (guard : Option (Nat × Bool)) :
    execOp a.eval { dst, op := .build 91 ps, type := ty, pos, after, guard } = buildK 91 (ps.map fun (i, x) => (i, a.eval x)) := rfl
theorem build8l (a b c d e f g i : UInt64) (W : World) : (Instr.build 91 #[(0, .int .u64 a.toNat), (1, .int .u64 b.toNat), (2, .int .u64 c.toNat), (3, .int .u64 d.toNat), (4, .int .u64 e.toNat), (5, .int .u64 f.toNat), (6, .int .u64 g.toNat), (7, .int .u64 i.toNat)]).run Tryd.prog W = .ok (.agg (w64 [a, b, c, d, e, f, g, i])) W := by kernel_rfl
set_option maxRecDepth 20000 in
set_option maxHeartbeats 8000000 in
theorem press5_ok {h : List UInt64} {A : Option Addr} {n c : Nat} {bs : List UInt8} {w : World} (hh : h.length = 8) (hG : Glob5 w) (hb : BytesIn w A bs) (hl : 128 ≤ bs.length) (hn : bs.length = n) :
    Calls Tryd.prog 42 #[.agg (w64 h), .slice A n c] w fun r w' => (∃ h', h'.length = 8 ∧ r = .returned (.agg (w64 h'))) ∧ Below w.heap.size w w' := by
  obtain ⟨rl, hrl, HG⟩ : ∃ rl : List UInt64, rl.length = 80 ∧ Hid (∀ X, Below w.heap.size w X → ∀ i, i < 80 → X.cell? ⟨2, i, none⟩ = some (.int .u64 ((rl.getD i 0).toNat : Int))) := by
    have h2 := hG.two
    obtain ⟨l0, l1, t0, f0, t1, f1, h8, h80, h0, h1⟩ := hG
    refine ⟨l1, h80, hid fun X hX i hi => ?_⟩
    exact (cell_of_row X 2 i _ _ _ ((hX.block 2 (by omega)).trans h1)).trans (w64_get _ (by rw [h80]; exact hi))
  have HSP := hid (fun X (hX : Below w.heap.size w X) => spread5_ok (w := X) (c := c) (hb.below hX) hl hn)
  have HH8 := hid ((w64_size h).trans hh)
  have HHL := hid hh
  have HZ80 := hid (show (w64 (List.replicate 80 0)).size = 80 by rw [w64_size, List.length_replicate])
  have HZ8 := hid (show (w64 (List.replicate 8 0)).size = 8 by rw [w64_size, List.length_replicate])
  clear hG hb hl hn hh hrl
  have tok : True := trivial
  go_enter Tryd.func42, Tryd.ntmps42
  go_wp2_with (first | (refine wpList_box rfl 91 _ rfl (.agg (w64 h)) rfl ?_; intro gh W1 h1 hl1 hg1 hW1; have H1 := hid ((St.start w).newBlk hW1 hg1 h1); clear h1 hl1 hg1 hW1) | (have _t := tok; refine wpList_alloc 91 rfl rfl (.agg (w64 (List.replicate 8 0))) zero8l ?_; intro gr W2 h1 hl1 hg1 hW1; have H2 := hid (H1.out.newBlk hW1 hg1 h1); clear h1 hl1 hg1 hW1 tok) | (go_at_call 62; (with_reducible refine (HSP.out _ H2.out.below).mono ?_); rintro r W3 ⟨⟨ws, hwl, rfl⟩, hb3⟩; have H3 := hid (H2.out.turn hb3); have HWL := hid hwl; have HW8 := hid ((w64_size ws).trans hwl); clear hb3 hwl) | (refine wpList_alloc 113 rfl rfl (.agg (w64 (List.replicate 80 0))) zero80w ?_; intro gw W4 h1 hl1 hg1 hW1; have H4 := hid (H3.out.newBlk hW1 hg1 h1); clear h1 hl1 hg1 hW1) | (refine wpList_store_box 113 _ _ rfl gw rfl rfl (w64 ws) rfl 80 size80w HW8.out (w64_one _) 113 _ H4.out.blk HZ80.out ?_; intro W5 hB hT hs; have H5 := hid (H4.out.put hB hT); have LH : (loadK 91 (.pointer (some ⟨gh, 0, none⟩))).run Tryd.prog W5 = .ok (.value (.agg (w64 h))) W5 := run_loadK_box H5.out.at3.blk Tryd.underlying91 rfl size8l HH8.out; clear hB hT hs) | (refine wpList_alloc 91 rfl rfl (.agg (w64 (List.replicate 8 0))) zero8l ?_; intro gv W6 h1 hl1 hg1 hW1; have H6 := hid (H5.out.newBlk hW1 hg1 h1); clear h1 hl1 hg1 hW1 LH) | (refine wpList_store_box 91 _ _ rfl gv rfl rfl (w64 h) rfl 8 size8l HH8.out (w64_one _) 91 _ H6.out.blk HZ8.out ?_; intro W7 hB hT hs; have H7 := hid (H6.out.put hB hT); clear hB hT hs))
  go_loopw [7, 8, 9, 14] (fun _ _ _ k X => ∃ (i : Nat) (V : List UInt64), i ≤ 80 ∧ k = .int .i64 i ∧ Hid (V.length = 8) ∧ Hid (St w [Blk gv (w64 V) 91, Blk gw (w64 ws) 113, Blk gr (w64 (List.replicate 8 0)) 91, Blk gh (w64 h) 91] X)) (fun _ _ _ k _ => 80 - (intOf k).toNat)
  case atStart => exact ⟨0, h, Nat.zero_le _, rfl, HHL, H7⟩
  case round =>
    clear H1 H2 H3 H4 H5 H6 H7
    obtain ⟨i, V, hi, rfl, HV8, HS⟩ := hrel
    by_cases hlt : i < 80
    · have e1 : (i : Int) < 80 := by omega
      have e0 : (0 : Int) ≤ (i : Int) := by omega
      have hV8 := HV8.out
      obtain ⟨v0, hv0⟩ : ∃ x, x = V.getD 0 0 := ⟨_, rfl⟩
      obtain ⟨v1, hv1⟩ : ∃ x, x = V.getD 1 0 := ⟨_, rfl⟩
      obtain ⟨v2, hv2⟩ : ∃ x, x = V.getD 2 0 := ⟨_, rfl⟩
      obtain ⟨v3, hv3⟩ : ∃ x, x = V.getD 3 0 := ⟨_, rfl⟩
      obtain ⟨v4, hv4⟩ : ∃ x, x = V.getD 4 0 := ⟨_, rfl⟩
      obtain ⟨v5, hv5⟩ : ∃ x, x = V.getD 5 0 := ⟨_, rfl⟩
      obtain ⟨v6, hv6⟩ : ∃ x, x = V.getD 6 0 := ⟨_, rfl⟩
      obtain ⟨v7, hv7⟩ : ∃ x, x = V.getD 7 0 := ⟨_, rfl⟩
      obtain ⟨k, hk⟩ : ∃ x, x = rl.getD i 0 := ⟨_, rfl⟩
      obtain ⟨x, hx⟩ : ∃ x, x = ws.getD i 0 := ⟨_, rfl⟩
      have HC := hid (show ∀ X, St w [Blk gv (w64 V) 91, Blk gw (w64 ws) 113, Blk gr (w64 (List.replicate 8 0)) 91, Blk gh (w64 h) 91] X → X.cell? ⟨gv, 4, none⟩ = some (.int .u64 (v4.toNat : Int)) ∧ X.cell? ⟨gv, 5, none⟩ = some (.int .u64 (v5.toNat : Int)) ∧ X.cell? ⟨gv, 6, none⟩ = some (.int .u64 (v6.toNat : Int)) ∧ X.cell? ⟨gv, 7, none⟩ = some (.int .u64 (v7.toNat : Int)) ∧ X.cell? ⟨2, i, none⟩ = some (.int .u64 (k.toNat : Int)) ∧ X.cell? ⟨gw, i, none⟩ = some (.int .u64 (x.toNat : Int)) from fun X hX =>
        ⟨by rw [hv4]; exact lblk_cell hX (by omega), by rw [hv5]; exact lblk_cell hX (by omega), by rw [hv6]; exact lblk_cell hX (by omega), by rw [hv7]; exact lblk_cell hX (by omega), by rw [hk]; exact HG.out X hX.below i hlt, by rw [hx]; exact lblk_cell hX.at2 (by rw [HWL.out]; exact hlt)⟩)
      have HC3 := hid (show ∀ X, St w [Blk gv (w64 V) 91, Blk gw (w64 ws) 113, Blk gr (w64 (List.replicate 8 0)) 91, Blk gh (w64 h) 91] X → X.cell? ⟨gv, 0, none⟩ = some (.int .u64 (v0.toNat : Int)) ∧ X.cell? ⟨gv, 1, none⟩ = some (.int .u64 (v1.toNat : Int)) ∧ X.cell? ⟨gv, 2, none⟩ = some (.int .u64 (v2.toNat : Int)) from fun X hX =>
        ⟨by rw [hv0]; exact lblk_cell hX (by omega), by rw [hv1]; exact lblk_cell hX (by omega), by rw [hv2]; exact lblk_cell hX (by omega)⟩)
      have HC4 := hid (show ∀ X, St w [Blk gv (w64 V) 91, Blk gw (w64 ws) 113, Blk gr (w64 (List.replicate 8 0)) 91, Blk gh (w64 h) 91] X → X.cell? ⟨gv, 3, none⟩ = some (.int .u64 (v3.toNat : Int)) from fun X hX => by rw [hv3]; exact lblk_cell hX (by omega))
      clear hv0 hv1 hv2 hv3 hv4 hv5 hv6 hv7 hk hx
      have HRa := hid (fun X => turn64_any v4 (n := 14) (by decide) (ni := 14) rfl X)
      generalize rotr64 v4 14 = ra at HRa
      have HRb := hid (fun X => turn64_any v4 (n := 18) (by decide) (ni := 18) rfl X)
      generalize rotr64 v4 18 = rb at HRb
      have HRc := hid (fun X => turn64_any v4 (n := 41) (by decide) (ni := 41) rfl X)
      generalize rotr64 v4 41 = rc at HRc
      have E1 := xor64 ra rb
      generalize (ra ^^^ rb) = a1 at E1
      have E2 := xor64 a1 rc
      generalize (a1 ^^^ rc) = a2 at E2
      have E3 := add64 v7 a2
      generalize (v7 + a2) = a3 at E3
      have E4 := and64 v4 v5
      generalize (v4 &&& v5) = a4 at E4
      have E5 : bits .xor .u64 (if IntKind.u64.signed = true then -1 else IntKind.u64.max) (v4.toNat : Int) = ((0xffffffffffffffff ^^^ v4).toNat : Int) := xor64 0xffffffffffffffff v4
      generalize (0xffffffffffffffff ^^^ v4) = a5 at E5
      have E6 := and64 a5 v6
      generalize (a5 &&& v6) = a6 at E6
      have E7 := xor64 a4 a6
      generalize (a4 ^^^ a6) = a7 at E7
      have E8 := add64 a3 a7
      generalize (a3 + a7) = a8 at E8
      have E9 := add64 a8 k
      generalize (a8 + k) = a9 at E9
      have E10 := add64 a9 x
      generalize (a9 + x) = t at E10
      have HRd := hid (fun X => turn64_any v0 (n := 28) (by decide) (ni := 28) rfl X)
      generalize rotr64 v0 28 = rd at HRd
      have HRe := hid (fun X => turn64_any v0 (n := 34) (by decide) (ni := 34) rfl X)
      generalize rotr64 v0 34 = re at HRe
      have HRf := hid (fun X => turn64_any v0 (n := 39) (by decide) (ni := 39) rfl X)
      generalize rotr64 v0 39 = rf at HRf
      have D1 := xor64 rd re
      generalize (rd ^^^ re) = d1 at D1
      have D2 := xor64 d1 rf
      generalize (d1 ^^^ rf) = d2 at D2
      have D3 := and64 v0 v1
      generalize (v0 &&& v1) = d3 at D3
      have D4 := and64 v0 v2
      generalize (v0 &&& v2) = d4 at D4
      have D5 := xor64 d3 d4
      generalize (d3 ^^^ d4) = d5 at D5
      have D6 := and64 v1 v2
      generalize (v1 &&& v2) = d6 at D6
      have D7 := xor64 d5 d6
      generalize (d5 ^^^ d6) = d7 at D7
      have D8 := add64 d2 d7
      generalize (d2 + d7) = u at D8
      have D9 := add64 t u
      generalize (t + u) = tu at D9
      have D10 := add64 v3 t
      generalize (v3 + t) = v3t at D10
      have BB := fun W => run_buildK (build8l tu v0 v1 v2 v3t v4 v5 v6 W)
      have HVS := hid ((w64_size V).trans hV8)
      have HN8 := hid (show (w64 [tu, v0, v1, v2, v3t, v4, v5, v6]).size = 8 from rfl)
      clear hV8
      go_wp2_with fail
      refine wp_region_ord [] [(0, 1), (1, 1), (2, 1), (3, 1), (5, 1), (6, 1), (9, 1), (10, 1), (14, 1), (15, 1), (16, 1), (17, 1), (18, 1), (19, 1), (20, 1), (21, 1), (22, 1), (23, 1), (24, 1), (25, 1), (27, 1), (28, 1), (29, 1), (31, 1), (32, 1), (33, 1), (4, 2), (7, 2), (8, 1), (11, 2), (12, 1), (13, 1), (26, 1), (30, 1), (34, 1), (35, 1)] (fun X => St w [Blk gv (w64 V) 91, Blk gw (w64 ws) 113, Blk gr (w64 (List.replicate 8 0)) 91, Blk gh (w64 h) 91] X) (by kernel_rfl) (by kernel_rfl) (fun d _ c _ _ h => by cases d <;> exact h) (HS.out.turn (Below.drew (Below.refl _ _))) (fun X hXe hX => ?_)
      clear hXe HS
      repeat (apply wpOrd_class; ((· first | (rw [List.getElem?_toArray, List.getElem?_cons_zero]; done) | (simp only [List.getElem?_toArray, List.getElem?_cons_succ, List.getElem?_cons_zero]; exact rfl))); (· exact rfl); intro K hK; apply Exists.intro; refine And.intro (fun X' hX' => ?_) ?_; (· obtain ⟨hq1, hq2, hq3, hq4, hq5, hq6⟩ := HC.out _ hX'; clear hX'; go_simp; (try go_bits); first | done | exact rfl | exact ⟨rfl, rfl⟩); go_simp; refine hK _ _ ?_; clear hK K)
      (apply wpOrd_comes; ((· first | (rw [List.getElem?_toArray, List.getElem?_cons_zero]; done) | (simp only [List.getElem?_toArray, List.getElem?_cons_succ, List.getElem?_cons_zero]; exact rfl))); intro N hN)
      go_wp2_with (go_at_call 63; (with_reducible refine (HRa.out _).mono ?_); rintro v X2 ⟨rfl, rfl⟩)
      refine hN _ _ (fun _ => hX) ?_
      clear hN N
      (apply wpOrd_comes; ((· first | (rw [List.getElem?_toArray, List.getElem?_cons_zero]; done) | (simp only [List.getElem?_toArray, List.getElem?_cons_succ, List.getElem?_cons_zero]; exact rfl))); intro N hN)
      go_wp2_with (go_at_call 63; (with_reducible refine (HRb.out _).mono ?_); rintro v X2 ⟨rfl, rfl⟩)
      refine hN _ _ (fun _ => hX) ?_
      clear hN N
      repeat (apply wpOrd_class; ((· first | (rw [List.getElem?_toArray, List.getElem?_cons_zero]; done) | (simp only [List.getElem?_toArray, List.getElem?_cons_succ, List.getElem?_cons_zero]; exact rfl))); (· exact rfl); intro K hK; apply Exists.intro; refine And.intro (fun X' hX' => ?_) ?_; (· obtain ⟨hq1, hq2, hq3, hq4, hq5, hq6⟩ := HC.out _ hX'; clear hX'; go_simp; (try go_bits); first | done | exact rfl | exact ⟨rfl, rfl⟩); go_simp; refine hK _ _ ?_; clear hK K)
      (apply wpOrd_comes; ((· first | (rw [List.getElem?_toArray, List.getElem?_cons_zero]; done) | (simp only [List.getElem?_toArray, List.getElem?_cons_succ, List.getElem?_cons_zero]; exact rfl))); intro N hN)
      go_wp2_with (go_at_call 63; (with_reducible refine (HRc.out _).mono ?_); rintro v X2 ⟨rfl, rfl⟩)
      refine hN _ _ (fun _ => hX) ?_
      clear hN N
      repeat (apply wpOrd_class; ((· first | (rw [List.getElem?_toArray, List.getElem?_cons_zero]; done) | (simp only [List.getElem?_toArray, List.getElem?_cons_succ, List.getElem?_cons_zero]; exact rfl))); (· exact rfl); intro K hK; apply Exists.intro; refine And.intro (fun X' hX' => ?_) ?_; (· obtain ⟨hq1, hq2, hq3, hq4, hq5, hq6⟩ := HC.out _ hX'; clear hX'; go_simp; (try go_bits); first | done | exact rfl | exact ⟨rfl, rfl⟩); go_simp; refine hK _ _ ?_; clear hK K)
      refine wpOrd_done ?_
      have HX := hid hX
      clear hX
      go_wp2_with fail
      refine wp_region_ord [] [(0, 1), (1, 1), (3, 1), (4, 1), (7, 1), (8, 1), (11, 1), (12, 1), (13, 1), (14, 1), (15, 1), (16, 1), (17, 1), (18, 1), (19, 1), (20, 1), (21, 1), (22, 1), (23, 1), (24, 1), (25, 1), (26, 1), (27, 1), (2, 2), (5, 2), (6, 1), (9, 2), (10, 1), (28, 1), (29, 1)] (fun X => St w [Blk gv (w64 V) 91, Blk gw (w64 ws) 113, Blk gr (w64 (List.replicate 8 0)) 91, Blk gh (w64 h) 91] X) (by kernel_rfl) (by kernel_rfl) (fun d _ c _ _ h => by cases d <;> exact h) (HX.out.turn (Below.drew (Below.refl _ _))) (fun X hXe hX => ?_)
      clear hXe HX
      repeat (apply wpOrd_class; ((· first | (rw [List.getElem?_toArray, List.getElem?_cons_zero]; done) | (simp only [List.getElem?_toArray, List.getElem?_cons_succ, List.getElem?_cons_zero]; exact rfl))); (· exact rfl); intro K hK; apply Exists.intro; refine And.intro (fun X' hX' => ?_) ?_; (· obtain ⟨hq1, hq2, hq3⟩ := HC3.out _ hX'; clear hX'; go_simp; (try go_bits); first | done | exact rfl | exact ⟨rfl, rfl⟩); go_simp; refine hK _ _ ?_; clear hK K)
      (apply wpOrd_comes; ((· first | (rw [List.getElem?_toArray, List.getElem?_cons_zero]; done) | (simp only [List.getElem?_toArray, List.getElem?_cons_succ, List.getElem?_cons_zero]; exact rfl))); intro N hN)
      go_wp2_with (go_at_call 63; (with_reducible refine (HRd.out _).mono ?_); rintro v X2 ⟨rfl, rfl⟩)
      refine hN _ _ (fun _ => hX) ?_
      clear hN N
      (apply wpOrd_comes; ((· first | (rw [List.getElem?_toArray, List.getElem?_cons_zero]; done) | (simp only [List.getElem?_toArray, List.getElem?_cons_succ, List.getElem?_cons_zero]; exact rfl))); intro N hN)
      go_wp2_with (go_at_call 63; (with_reducible refine (HRe.out _).mono ?_); rintro v X2 ⟨rfl, rfl⟩)
      refine hN _ _ (fun _ => hX) ?_
      clear hN N
      repeat (apply wpOrd_class; ((· first | (rw [List.getElem?_toArray, List.getElem?_cons_zero]; done) | (simp only [List.getElem?_toArray, List.getElem?_cons_succ, List.getElem?_cons_zero]; exact rfl))); (· exact rfl); intro K hK; apply Exists.intro; refine And.intro (fun X' hX' => ?_) ?_; (· obtain ⟨hq1, hq2, hq3⟩ := HC3.out _ hX'; clear hX'; go_simp; (try go_bits); first | done | exact rfl | exact ⟨rfl, rfl⟩); go_simp; refine hK _ _ ?_; clear hK K)
      (apply wpOrd_comes; ((· first | (rw [List.getElem?_toArray, List.getElem?_cons_zero]; done) | (simp only [List.getElem?_toArray, List.getElem?_cons_succ, List.getElem?_cons_zero]; exact rfl))); intro N hN)
      go_wp2_with (go_at_call 63; (with_reducible refine (HRf.out _).mono ?_); rintro v X2 ⟨rfl, rfl⟩)
      refine hN _ _ (fun _ => hX) ?_
      clear hN N
      repeat (apply wpOrd_class; ((· first | (rw [List.getElem?_toArray, List.getElem?_cons_zero]; done) | (simp only [List.getElem?_toArray, List.getElem?_cons_succ, List.getElem?_cons_zero]; exact rfl))); (· exact rfl); intro K hK; apply Exists.intro; refine And.intro (fun X' hX' => ?_) ?_; (· obtain ⟨hq1, hq2, hq3⟩ := HC3.out _ hX'; clear hX'; go_simp; (try go_bits); first | done | exact rfl | exact ⟨rfl, rfl⟩); go_simp; refine hK _ _ ?_; clear hK K)
      refine wpOrd_done ?_
      have HX := hid hX
      clear hX
      obtain ⟨c4, c5, c6, c7, _, _⟩ := HC.out X HX.out
      obtain ⟨c0, c1, c2⟩ := HC3.out X HX.out
      have c3 := HC4.out X HX.out
      go_wp2_with (refine wpList_store_box 91 _ _ rfl gv rfl rfl (w64 [tu, v0, v1, v2, v3t, v4, v5, v6]) rfl 8 size8l HN8.out (w64_one _) 91 _ HX.out.blk HVS.out ?_; intro W5 hB hT hs; have H5 := hid (HX.out.put hB hT); clear hB hT hs)
      go_roundw
      case rel => exact ⟨i + 1, _, by omega, by go_num, hid rfl, H5⟩
      case measure => (simp [intOf] <;> omega)
    · have e1 : ¬ (i : Int) < 80 := by omega
      obtain rfl : i = 80 := by omega
      have H9 := hid HS.out.at4
      clear HS
      go_wp2_with fail
      go_loopw [10, 102] (fun _ v X => ∃ (i : Nat) (h2 : List UInt64), i ≤ 8 ∧ v = .int .i64 i ∧ Hid (h2.length = 8) ∧ Hid (St w [Blk gh (w64 h2) 91, Blk gv (w64 V) 91, Blk gw (w64 ws) 113, Blk gr (w64 (List.replicate 8 0)) 91] X)) (fun _ v _ => 8 - (intOf v).toNat)
      case atStart => exact ⟨0, h, Nat.zero_le _, rfl, HHL, H9⟩
      case round =>
        clear H9
        obtain ⟨i, h2, hi, rfl, HL2, HS⟩ := hrel
        by_cases hlt : i < 8
        · have e1 : (i : Int) < 8 := by omega
          have e0 : (0 : Int) ≤ (i : Int) := by omega
          obtain ⟨x, hx⟩ : ∃ x, x = h2.getD i 0 := ⟨_, rfl⟩
          obtain ⟨y, hy⟩ : ∃ x, x = V.getD i 0 := ⟨_, rfl⟩
          have E1 := add64 x y
          generalize (x + y) = z at E1
          have HC := hid (show ∀ X, St w [Blk gh (w64 h2) 91, Blk gv (w64 V) 91, Blk gw (w64 ws) 113, Blk gr (w64 (List.replicate 8 0)) 91] X → X.cell? ⟨gh, i, none⟩ = some (.int .u64 (x.toNat : Int)) ∧ X.cell? ⟨gv, i, none⟩ = some (.int .u64 (y.toNat : Int)) from fun X hX => ⟨by rw [hx]; exact lblk_cell hX (by rw [HL2.out]; exact hlt), by rw [hy]; exact lblk_cell hX.at2 (by rw [HV8.out]; exact hlt)⟩)
          clear hx hy
          go_wp2_with fail
          refine wp_region_ord [8] [(0, 1), (1, 1), (2, 1), (3, 1), (4, 1), (5, 1), (6, 1), (7, 1), (8, 2)] (fun X => St w [Blk gh (w64 h2) 91, Blk gv (w64 V) 91, Blk gw (w64 ws) 113, Blk gr (w64 (List.replicate 8 0)) 91] X) (by kernel_rfl) (by kernel_rfl) (fun d _ c _ _ h => by cases d <;> exact h) (HS.out.turn (Below.drew (Below.refl _ _))) (fun X hXe hX => ?_)
          clear hXe HS
          repeat (apply wpOrd_class; ((· first | (rw [List.getElem?_toArray, List.getElem?_cons_zero]; done) | (simp only [List.getElem?_toArray, List.getElem?_cons_succ, List.getElem?_cons_zero]; exact rfl))); (· exact rfl); intro K hK; apply Exists.intro; refine And.intro (fun X' hX' => ?_) ?_; (· obtain ⟨hq1, hq2⟩ := HC.out _ hX'; clear hX'; go_simp; (try go_bits); first | done | exact rfl | exact ⟨rfl, rfl⟩); go_simp; refine hK _ _ ?_; clear hK K)
          obtain ⟨c3, _⟩ := HC.out X hX
          have f3 := frozen_of_row X gh i _ _ hX.blk
          (apply wpOrd_comes; ((· first | (rw [List.getElem?_toArray, List.getElem?_cons_zero]; done) | (simp only [List.getElem?_toArray, List.getElem?_cons_succ, List.getElem?_cons_zero]; exact rfl))); intro N hN)
          go_wp2_with fail
          have H3 := hid (hX.setCell i (.int .u64 (z.toNat : Int)))
          rw [w64_set] at H3
          clear hX c3 f3
          refine hN _ _ (fun h => by cases h) ?_
          clear hN N
          refine wpOrd_done ?_
          go_wp2_with fail
          go_roundw
          case rel => exact ⟨i + 1, h2.set i z, by omega, by go_num, hid (by rw [List.length_set]; exact HL2.out), H3⟩
          case measure => (simp [intOf] <;> omega)
        · have e1 : ¬ (i : Int) < 8 := by omega
          obtain rfl : i = 8 := by omega
          have HZ := hid ((w64_size h2).trans HL2.out)
          have LB : (loadK 91 (.pointer (some ⟨gh, 0, none⟩))).run Tryd.prog wr = .ok (.value (.agg (w64 h2))) wr := run_loadK_box HS.out.blk Tryd.underlying91 rfl size8l HZ.out
          go_wp2_with (refine wpList_store_box 91 _ _ rfl gr rfl rfl (w64 h2) rfl 8 size8l HZ.out (w64_one _) 91 _ HS.out.at4.blk HZ8.out ?_; intro W5 hB5 hT5 hs5; have H5 := hid (HS.out.at4.put hB5 hT5))
          exact bodyPost_ret (results_cell rfl _ _ _ gr 91 (w64 _) (0, 0) rfl hB5 Tryd.underlying91 (by rw [HZ.out]; exact size8l)) rfl ⟨⟨h2, HL2.out, rfl⟩, H5.out.below⟩
end Go.Proofs.YtnakbdgoaepehaaDoor
