/- A block worked into the words. -/
import Derived.Test.YtnakbdgoaepehaaDoorShaSpread
namespace Go.Cu
open Go Go.RowKit
def startL : List UInt32 := [0x6a09e667, 0xbb67ae85, 0x3c6ef372, 0xa54ff53a, 0x510e527f, 0x9b05688c, 0x1f83d9ab, 0x5be0cd19]
def roundsL : List UInt32 := [0x428a2f98, 0x71374491, 0xb5c0fbcf, 0xe9b5dba5, 0x3956c25b, 0x59f111f1, 0x923f82a4, 0xab1c5ed5, 0xd807aa98, 0x12835b01, 0x243185be, 0x550c7dc3, 0x72be5d74, 0x80deb1fe, 0x9bdc06a7, 0xc19bf174, 0xe49b69c1, 0xefbe4786, 0x0fc19dc6, 0x240ca1cc, 0x2de92c6f, 0x4a7484aa, 0x5cb0a9dc, 0x76f988da, 0x983e5152, 0xa831c66d, 0xb00327c8, 0xbf597fc7, 0xc6e00bf3, 0xd5a79147, 0x06ca6351, 0x14292967, 0x27b70a85, 0x2e1b2138, 0x4d2c6dfc, 0x53380d13, 0x650a7354, 0x766a0abb, 0x81c2c92e, 0x92722c85, 0xa2bfe8a1, 0xa81a664b, 0xc24b8b70, 0xc76c51a3, 0xd192e819, 0xd6990624, 0xf40e3585, 0x106aa070, 0x19a4c116, 0x1e376c08, 0x2748774c, 0x34b0bcb5, 0x391c0cb3, 0x4ed8aa4a, 0x5b9cca4f, 0x682e6ff3, 0x748f82ee, 0x78a5636f, 0x84c87814, 0x8cc70208, 0x90befffa, 0xa4506ceb, 0xbef9a3f7, 0xc67178f2]
def chW (a b c : UInt32) : UInt32 := (a &&& b) ^^^ ((0xffffffff ^^^ a) &&& c)
def majW (a b c : UInt32) : UInt32 := (a &&& b) ^^^ (a &&& c) ^^^ (b &&& c)
def tW (v : List UInt32) (k w : UInt32) : UInt32 := v.getD 7 0 + bigW (v.getD 4 0) 6 11 25 + chW (v.getD 4 0) (v.getD 5 0) (v.getD 6 0) + k + w
def uW (v : List UInt32) : UInt32 := bigW (v.getD 0 0) 2 13 22 + majW (v.getD 0 0) (v.getD 1 0) (v.getD 2 0)
def stepW (v : List UInt32) (k w : UInt32) : List UInt32 := [tW v k w + uW v, v.getD 0 0, v.getD 1 0, v.getD 2 0, v.getD 3 0 + tW v k w, v.getD 4 0, v.getD 5 0, v.getD 6 0]
/-- So many rounds. -/
def roundsTo (h ws : List UInt32) : Nat → List UInt32
  | 0 => h
  | i + 1 => stepW (roundsTo h ws i) (roundsL.getD i 0) (ws.getD i 0)
/-- The words added, so many of them. -/
def addTo (h v : List UInt32) : Nat → List UInt32
  | 0 => h
  | i + 1 => (addTo h v i).set i ((addTo h v i).getD i 0 + v.getD i 0)
def pressW (h : List UInt32) (bs : List UInt8) : List UInt32 := addTo h (roundsTo h (spreadW bs) 64) 8
theorem roundsTo_len {h ws : List UInt32} (hh : h.length = 8) : ∀ i, (roundsTo h ws i).length = 8
  | 0 => hh
  | _ + 1 => rfl
theorem addTo_len {h v : List UInt32} (hh : h.length = 8) : ∀ i, (addTo h v i).length = 8
  | 0 => hh
  | i + 1 => by rw [addTo, List.length_set, addTo_len hh i]
theorem pressW_len {h : List UInt32} (hh : h.length = 8) (bs : List UInt8) : (pressW h bs).length = 8 := addTo_len hh 8
theorem roundsL_len : roundsL.length = 64 := by decide
theorem startL_len : startL.length = 8 := by decide
/-- The program's two tables. -/
def Glob (W : World) : Prop := ∃ t0 f0 t1 f1, W.heap[1]? = some (.cells (w32 startL) t0 f0) ∧ W.heap[3]? = some (.cells (w32 roundsL) t1 f1)
theorem Glob.below {W X : World} {n : Nat} (h : Glob W) (hb : Below n W X) (hn : 3 + 1 ≤ n) : Glob X := by
  obtain ⟨t0, f0, t1, f1, h0, h1⟩ := h
  exact ⟨t0, f0, t1, f1, (hb.block 1 (by omega)).trans h0, (hb.block 3 (by omega)).trans h1⟩
theorem Glob.two {W : World} (h : Glob W) : 3 + 1 ≤ W.heap.size := by
  obtain ⟨_, _, _, _, _, h1⟩ := h
  have := heap_lt h1
  omega
theorem Glob.round {W : World} (h : Glob W) {i : Nat} (hi : i < 64) : W.cell? ⟨3, i, none⟩ = some (.int .u32 ((roundsL.getD i 0).toNat : Int)) := by
  obtain ⟨_, _, _, _, _, h1⟩ := h
  exact (cell_of_row W 3 i _ _ _ h1).trans (w32_get _ (by rw [roundsL_len]; exact hi))
theorem list8 {l : List UInt32} (h : l.length = 8) : l = [l.getD 0 0, l.getD 1 0, l.getD 2 0, l.getD 3 0, l.getD 4 0, l.getD 5 0, l.getD 6 0, l.getD 7 0] := by
  match l, h with
  | [a, b, c, d, e, f, g, i], _ => rfl
end Go.Cu
namespace Go.Proofs.YtnakbdgoaepehaaDoor
open Go.RowKit Go.Cu
set_option maxRecDepth 20000 in
theorem zero8w (W : World) : (zeroValue 109).run Tryd.prog W = .ok (.agg (w32 (List.replicate 8 0))) W := by kernel_rfl
theorem size8w : (Tryd.prog.info? 109).map (·.size) = some 8 := by kernel_rfl
@[go_sem ↓] theorem ldktW8 (a : Act) (dst : Option Tmp) (x : Operand) (ty : TypeId) (pos : String) (after : Array Edge) (guard : Option (Nat × Bool)) :
      execOp a.eval { dst, op := .load 109 x, type := ty, pos, after, guard } = loadK 109 (a.eval x) := rfl
@[go_sem ↓] theorem bdktW8 (a : Act) (dst : Option Tmp) (ps : Array (Nat × Operand)) (ty : TypeId) (pos : String) (after : Array Edge) (guard : Option (Nat × Bool)) :
    execOp a.eval { dst, op := .build 109 ps, type := ty, pos, after, guard } = buildK 109 (ps.map fun (i, x) => (i, a.eval x)) := rfl
theorem build8w (a b c d e f g i : UInt32) (W : World) : (Instr.build 109 #[(0, .int .u32 a.toNat), (1, .int .u32 b.toNat), (2, .int .u32 c.toNat), (3, .int .u32 d.toNat), (4, .int .u32 e.toNat), (5, .int .u32 f.toNat), (6, .int .u32 g.toNat), (7, .int .u32 i.toNat)]).run Tryd.prog W = .ok (.agg (w32 [a, b, c, d, e, f, g, i])) W := by kernel_rfl
set_option maxRecDepth 20000 in
set_option maxHeartbeats 8000000 in
theorem press_ok {h : List UInt32} {A : Option Addr} {n c : Nat} {bs : List UInt8} {w : World} (hh : h.length = 8) (hG : Glob w) (hb : BytesIn w A bs) (hl : 64 ≤ bs.length) (hn : bs.length = n) (hc : n ≤ c) (hc2 : c ≤ maxLen) :
    Calls Tryd.prog 61 #[.agg (w32 h), .slice A n c] w fun r w' => r = .returned (.agg (w32 (pressW h bs))) ∧ Below w.heap.size w w' := by
  have HG := hid (fun X (hX : Below w.heap.size w X) => hG.below hX hG.two)
  have HSP := hid (fun X (hX : Below w.heap.size w X) => spread_ok (w := X) (hb.below hX) hl hn hc hc2)
  have HH8 := hid ((w32_size h).trans hh)
  have HHL := hid hh
  obtain ⟨ws, hws⟩ : ∃ ws, ws = spreadW bs := ⟨_, rfl⟩
  have HWL := hid (show ws.length = 64 by rw [hws]; exact spreadTo_len bs 48)
  have HW8 := hid ((w32_size ws).trans HWL.out)
  have HZ64 := hid (show (w32 (List.replicate 64 0)).size = 64 by rw [w32_size, List.length_replicate])
  have HZ8 := hid (show (w32 (List.replicate 8 0)).size = 8 by rw [w32_size, List.length_replicate])
  unfold pressW
  rw [← hws] at HSP ⊢
  clear hG hb hl hn hc hc2 hh hws
  have tok : True := trivial
  go_enter Tryd.func61, Tryd.ntmps61
  go_wp2_with (first | (refine wpList_box rfl 109 _ rfl (.agg (w32 h)) rfl ?_; intro gh W1 h1 hl1 hg1 hW1; have H1 := hid ((St.start w).newBlk hW1 hg1 h1); clear h1 hl1 hg1 hW1) | (have _t := tok; refine wpList_alloc 109 rfl rfl (.agg (w32 (List.replicate 8 0))) zero8w ?_; intro gr W2 h1 hl1 hg1 hW1; have H2 := hid (H1.out.newBlk hW1 hg1 h1); clear h1 hl1 hg1 hW1 tok) | (go_at_call 70; (with_reducible refine (HSP.out _ H2.out.below).mono ?_); rintro r W3 ⟨rfl, hb3⟩; have H3 := hid (H2.out.turn hb3); clear hb3) | (refine wpList_alloc 123 rfl rfl (.agg (w32 (List.replicate 64 0))) zero64w ?_; intro gw W4 h1 hl1 hg1 hW1; have H4 := hid (H3.out.newBlk hW1 hg1 h1); clear h1 hl1 hg1 hW1) | (refine wpList_store_box 123 _ _ rfl gw rfl rfl (w32 ws) rfl 64 size64w HW8.out (w32_one _) 123 _ H4.out.blk HZ64.out ?_; intro W5 hB hT hs; have H5 := hid (H4.out.put hB hT); have LH : (loadK 109 (.pointer (some ⟨gh, 0, none⟩))).run Tryd.prog W5 = .ok (.value (.agg (w32 h))) W5 := run_loadK_box H5.out.at3.blk Tryd.underlying109 rfl size8w HH8.out; clear hB hT hs) | (refine wpList_alloc 109 rfl rfl (.agg (w32 (List.replicate 8 0))) zero8w ?_; intro gv W6 h1 hl1 hg1 hW1; have H6 := hid (H5.out.newBlk hW1 hg1 h1); clear h1 hl1 hg1 hW1 LH) | (refine wpList_store_box 109 _ _ rfl gv rfl rfl (w32 h) rfl 8 size8w HH8.out (w32_one _) 109 _ H6.out.blk HZ8.out ?_; intro W7 hB hT hs; have H7 := hid (H6.out.put hB hT); clear hB hT hs))
  go_loopw [7, 8, 9, 14] (fun _ _ _ k X => ∃ i : Nat, i ≤ 64 ∧ k = .int .i64 i ∧ Hid (St w [Blk gv (w32 (roundsTo h ws i)) 109, Blk gw (w32 ws) 123, Blk gr (w32 (List.replicate 8 0)) 109, Blk gh (w32 h) 109] X)) (fun _ _ _ k _ => 64 - (intOf k).toNat)
  case atStart => exact ⟨0, Nat.zero_le _, rfl, H7⟩
  case round =>
    clear H1 H2 H3 H4 H5 H6 H7
    obtain ⟨i, hi, rfl, HS⟩ := hrel
    by_cases hlt : i < 64
    · have e1 : (i : Int) < 64 := by omega
      have e0 : (0 : Int) ≤ (i : Int) := by omega
      obtain ⟨V, hV⟩ : ∃ V, V = roundsTo h ws i := ⟨_, rfl⟩
      have hV8 : V.length = 8 := by rw [hV]; exact roundsTo_len HHL.out i
      rw [← hV] at HS
      have HV := hid hV
      obtain ⟨v0, hv0⟩ : ∃ x, x = V.getD 0 0 := ⟨_, rfl⟩
      obtain ⟨v1, hv1⟩ : ∃ x, x = V.getD 1 0 := ⟨_, rfl⟩
      obtain ⟨v2, hv2⟩ : ∃ x, x = V.getD 2 0 := ⟨_, rfl⟩
      obtain ⟨v3, hv3⟩ : ∃ x, x = V.getD 3 0 := ⟨_, rfl⟩
      obtain ⟨v4, hv4⟩ : ∃ x, x = V.getD 4 0 := ⟨_, rfl⟩
      obtain ⟨v5, hv5⟩ : ∃ x, x = V.getD 5 0 := ⟨_, rfl⟩
      obtain ⟨v6, hv6⟩ : ∃ x, x = V.getD 6 0 := ⟨_, rfl⟩
      obtain ⟨v7, hv7⟩ : ∃ x, x = V.getD 7 0 := ⟨_, rfl⟩
      obtain ⟨k, hk⟩ : ∃ x, x = roundsL.getD i 0 := ⟨_, rfl⟩
      obtain ⟨x, hx⟩ : ∃ x, x = ws.getD i 0 := ⟨_, rfl⟩
      obtain ⟨b4, hb4⟩ : ∃ x, x = bigW v4 6 11 25 := ⟨_, rfl⟩
      obtain ⟨a1, ha1⟩ : ∃ x, x = v7 + b4 := ⟨_, rfl⟩
      obtain ⟨a2, ha2⟩ : ∃ x, x = v4 &&& v5 := ⟨_, rfl⟩
      obtain ⟨a3, ha3⟩ : ∃ x, x = 0xffffffff ^^^ v4 := ⟨_, rfl⟩
      obtain ⟨a4, ha4⟩ : ∃ x, x = a3 &&& v6 := ⟨_, rfl⟩
      obtain ⟨a5, ha5⟩ : ∃ x, x = a2 ^^^ a4 := ⟨_, rfl⟩
      obtain ⟨a6, ha6⟩ : ∃ x, x = a1 + a5 := ⟨_, rfl⟩
      obtain ⟨a7, ha7⟩ : ∃ x, x = a6 + k := ⟨_, rfl⟩
      obtain ⟨t, ht⟩ : ∃ x', x' = a7 + x := ⟨_, rfl⟩
      have E1 : ((v7.toNat : Int) + (b4.toNat : Int)) % 4294967296 = (a1.toNat : Int) := by rw [ha1]; exact add_u32 _ _
      have E2 : bits .and .u32 (v4.toNat : Int) (v5.toNat : Int) = (a2.toNat : Int) := by rw [ha2]; exact bits_and_u32 _ _
      have E3 : bits .xor .u32 (if IntKind.u32.signed = true then -1 else IntKind.u32.max) (v4.toNat : Int) = (a3.toNat : Int) := by rw [ha3]; exact bits_xor_u32 0xffffffff v4
      have E4 : bits .and .u32 (a3.toNat : Int) (v6.toNat : Int) = (a4.toNat : Int) := by rw [ha4]; exact bits_and_u32 _ _
      have E5 : bits .xor .u32 (a2.toNat : Int) (a4.toNat : Int) = (a5.toNat : Int) := by rw [ha5]; exact bits_xor_u32 _ _
      have E6 : ((a1.toNat : Int) + (a5.toNat : Int)) % 4294967296 = (a6.toNat : Int) := by rw [ha6]; exact add_u32 _ _
      have E7 : ((a6.toNat : Int) + (k.toNat : Int)) % 4294967296 = (a7.toNat : Int) := by rw [ha7]; exact add_u32 _ _
      have E8 : ((a7.toNat : Int) + (x.toNat : Int)) % 4294967296 = (t.toNat : Int) := by rw [ht]; exact add_u32 _ _
      have HB4 := hid (show ∀ X, Calls Tryd.prog 71 #[.int .u32 v4.toNat, .int .i64 6, .int .i64 11, .int .i64 25] X fun v w' => v = .returned (.int .u32 b4.toNat) ∧ X = w' from fun X => by rw [hb4]; exact big_ok v4 (p := 6) (q := 11) (r := 25) (by decide) (by decide) (by decide) rfl rfl rfl X)
      have HC := hid (show ∀ X, St w [Blk gv (w32 V) 109, Blk gw (w32 ws) 123, Blk gr (w32 (List.replicate 8 0)) 109, Blk gh (w32 h) 109] X → X.cell? ⟨gv, 4, none⟩ = some (.int .u32 (v4.toNat : Int)) ∧ X.cell? ⟨gv, 5, none⟩ = some (.int .u32 (v5.toNat : Int)) ∧ X.cell? ⟨gv, 6, none⟩ = some (.int .u32 (v6.toNat : Int)) ∧ X.cell? ⟨gv, 7, none⟩ = some (.int .u32 (v7.toNat : Int)) ∧ X.cell? ⟨3, i, none⟩ = some (.int .u32 (k.toNat : Int)) ∧ X.cell? ⟨gw, i, none⟩ = some (.int .u32 (x.toNat : Int)) from fun X hX =>
        ⟨by rw [hv4]; exact wblk_cell hX (by omega), by rw [hv5]; exact wblk_cell hX (by omega), by rw [hv6]; exact wblk_cell hX (by omega), by rw [hv7]; exact wblk_cell hX (by omega), by rw [hk]; exact (HG.out X hX.below).round hlt, by rw [hx]; exact wblk_cell hX.at2 (by rw [HWL.out]; exact hlt)⟩)
      have HT := hid (show tW V k x = t by unfold tW chW; rw [← hv4, ← hv5, ← hv6, ← hv7, ← hb4, ← ha1, ← ha2, ← ha3, ← ha4, ← ha5, ← ha6, ← ha7, ← ht])
      obtain ⟨b0, hb0⟩ : ∃ x, x = bigW v0 2 13 22 := ⟨_, rfl⟩
      obtain ⟨d1, hd1⟩ : ∃ x, x = v0 &&& v1 := ⟨_, rfl⟩
      obtain ⟨d2, hd2⟩ : ∃ x, x = v0 &&& v2 := ⟨_, rfl⟩
      obtain ⟨d3, hd3⟩ : ∃ x, x = d1 ^^^ d2 := ⟨_, rfl⟩
      obtain ⟨d4, hd4⟩ : ∃ x, x = v1 &&& v2 := ⟨_, rfl⟩
      obtain ⟨d5, hd5⟩ : ∃ x, x = d3 ^^^ d4 := ⟨_, rfl⟩
      obtain ⟨u, hu⟩ : ∃ x, x = b0 + d5 := ⟨_, rfl⟩
      obtain ⟨tu, htu⟩ : ∃ x, x = t + u := ⟨_, rfl⟩
      obtain ⟨v3t, hv3t⟩ : ∃ x, x = v3 + t := ⟨_, rfl⟩
      have D1 : bits .and .u32 (v0.toNat : Int) (v1.toNat : Int) = (d1.toNat : Int) := by rw [hd1]; exact bits_and_u32 _ _
      have D2 : bits .and .u32 (v0.toNat : Int) (v2.toNat : Int) = (d2.toNat : Int) := by rw [hd2]; exact bits_and_u32 _ _
      have D3 : bits .xor .u32 (d1.toNat : Int) (d2.toNat : Int) = (d3.toNat : Int) := by rw [hd3]; exact bits_xor_u32 _ _
      have D4 : bits .and .u32 (v1.toNat : Int) (v2.toNat : Int) = (d4.toNat : Int) := by rw [hd4]; exact bits_and_u32 _ _
      have D5 : bits .xor .u32 (d3.toNat : Int) (d4.toNat : Int) = (d5.toNat : Int) := by rw [hd5]; exact bits_xor_u32 _ _
      have D6 : ((b0.toNat : Int) + (d5.toNat : Int)) % 4294967296 = (u.toNat : Int) := by rw [hu]; exact add_u32 _ _
      have D7 : ((t.toNat : Int) + (u.toNat : Int)) % 4294967296 = (tu.toNat : Int) := by rw [htu]; exact add_u32 _ _
      have D8 : ((v3.toNat : Int) + (t.toNat : Int)) % 4294967296 = (v3t.toNat : Int) := by rw [hv3t]; exact add_u32 _ _
      have HU := hid (show uW V = u by unfold uW majW; rw [← hv0, ← hv1, ← hv2, ← hb0, ← hd1, ← hd2, ← hd3, ← hd4, ← hd5, ← hu])
      have HST := hid (show roundsTo h ws (i + 1) = [tu, v0, v1, v2, v3t, v4, v5, v6] by rw [roundsTo, ← hV, ← hk, ← hx]; unfold stepW; rw [HT.out, HU.out, ← hv0, ← hv1, ← hv2, ← hv3, ← hv4, ← hv5, ← hv6, ← htu, ← hv3t])
      have HB0 := hid (show ∀ X, Calls Tryd.prog 71 #[.int .u32 v0.toNat, .int .i64 2, .int .i64 13, .int .i64 22] X fun v w' => v = .returned (.int .u32 b0.toNat) ∧ X = w' from fun X => by rw [hb0]; exact big_ok v0 (p := 2) (q := 13) (r := 22) (by decide) (by decide) (by decide) rfl rfl rfl X)
      have HC3 := hid (show ∀ X, St w [Blk gv (w32 V) 109, Blk gw (w32 ws) 123, Blk gr (w32 (List.replicate 8 0)) 109, Blk gh (w32 h) 109] X → X.cell? ⟨gv, 0, none⟩ = some (.int .u32 (v0.toNat : Int)) ∧ X.cell? ⟨gv, 1, none⟩ = some (.int .u32 (v1.toNat : Int)) ∧ X.cell? ⟨gv, 2, none⟩ = some (.int .u32 (v2.toNat : Int)) from fun X hX =>
        ⟨by rw [hv0]; exact wblk_cell hX (by omega), by rw [hv1]; exact wblk_cell hX (by omega), by rw [hv2]; exact wblk_cell hX (by omega)⟩)
      have HC4 := hid (show ∀ X, St w [Blk gv (w32 V) 109, Blk gw (w32 ws) 123, Blk gr (w32 (List.replicate 8 0)) 109, Blk gh (w32 h) 109] X → X.cell? ⟨gv, 3, none⟩ = some (.int .u32 (v3.toNat : Int)) from fun X hX => by rw [hv3]; exact wblk_cell hX (by omega))
      have BB := fun W => run_buildK (build8w tu v0 v1 v2 v3t v4 v5 v6 W)
      have HV8 := hid ((w32_size V).trans hV8)
      have HN8 := hid (show (w32 [tu, v0, v1, v2, v3t, v4, v5, v6]).size = 8 from rfl)
      clear hV hv0 hv1 hv2 hv3 hv4 hv5 hv6 hv7 hk hx hb4 ha1 ha2 ha3 ha4 ha5 ha6 ha7 ht hb0 hd1 hd2 hd3 hd4 hd5 hu htu hv3t hV8
      go_wp2_with fail
      refine wp_region_ord [] [(0, 1), (1, 1), (2, 1), (3, 1), (6, 1), (7, 1), (8, 1), (9, 1), (10, 1), (11, 1), (12, 1), (13, 1), (14, 1), (15, 1), (16, 1), (17, 1), (19, 1), (20, 1), (21, 1), (23, 1), (24, 1), (25, 1), (4, 2), (5, 1), (18, 1), (22, 1), (26, 1), (27, 1)] (fun X => St w [Blk gv (w32 V) 109, Blk gw (w32 ws) 123, Blk gr (w32 (List.replicate 8 0)) 109, Blk gh (w32 h) 109] X) (by kernel_rfl) (by kernel_rfl) (fun d _ c _ _ h => by cases d <;> exact h) (HS.out.turn (Below.drew (Below.refl _ _))) (fun X hXe hX => ?_)
      clear hXe HS
      repeat (apply wpOrd_class; ((· first | (rw [List.getElem?_toArray, List.getElem?_cons_zero]; done) | (simp only [List.getElem?_toArray, List.getElem?_cons_succ, List.getElem?_cons_zero]; exact rfl))); (· exact rfl); intro K hK; apply Exists.intro; refine And.intro (fun X' hX' => ?_) ?_; (· obtain ⟨hq1, hq2, hq3, hq4, hq5, hq6⟩ := HC.out _ hX'; clear hX'; go_simp; (try go_bits); first | done | exact rfl | exact ⟨rfl, rfl⟩); go_simp; refine hK _ _ ?_; clear hK K)
      (apply wpOrd_comes; ((· first | (rw [List.getElem?_toArray, List.getElem?_cons_zero]; done) | (simp only [List.getElem?_toArray, List.getElem?_cons_succ, List.getElem?_cons_zero]; exact rfl))); intro N hN)
      go_wp2_with (go_at_call 71; (with_reducible refine (HB4.out _).mono ?_); rintro v X2 ⟨rfl, rfl⟩)
      refine hN _ _ (fun _ => hX) ?_
      clear hN N
      repeat (apply wpOrd_class; ((· first | (rw [List.getElem?_toArray, List.getElem?_cons_zero]; done) | (simp only [List.getElem?_toArray, List.getElem?_cons_succ, List.getElem?_cons_zero]; exact rfl))); (· exact rfl); intro K hK; apply Exists.intro; refine And.intro (fun X' hX' => ?_) ?_; (· obtain ⟨hq1, hq2, hq3, hq4, hq5, hq6⟩ := HC.out _ hX'; clear hX'; go_simp; (try go_bits); first | done | exact rfl | exact ⟨rfl, rfl⟩); go_simp; refine hK _ _ ?_; clear hK K)
      refine wpOrd_done ?_
      have HX := hid hX
      clear hX
      go_wp2_with fail
      refine wp_region_ord [] [(0, 1), (1, 1), (3, 1), (4, 1), (5, 1), (6, 1), (7, 1), (8, 1), (9, 1), (10, 1), (11, 1), (12, 1), (13, 1), (14, 1), (15, 1), (16, 1), (17, 1), (18, 1), (19, 1), (2, 2), (20, 1), (21, 1)] (fun X => St w [Blk gv (w32 V) 109, Blk gw (w32 ws) 123, Blk gr (w32 (List.replicate 8 0)) 109, Blk gh (w32 h) 109] X) (by kernel_rfl) (by kernel_rfl) (fun d _ c _ _ h => by cases d <;> exact h) (HX.out.turn (Below.drew (Below.refl _ _))) (fun X hXe hX => ?_)
      clear hXe HX
      repeat (apply wpOrd_class; ((· first | (rw [List.getElem?_toArray, List.getElem?_cons_zero]; done) | (simp only [List.getElem?_toArray, List.getElem?_cons_succ, List.getElem?_cons_zero]; exact rfl))); (· exact rfl); intro K hK; apply Exists.intro; refine And.intro (fun X' hX' => ?_) ?_; (· obtain ⟨hq1, hq2, hq3⟩ := HC3.out _ hX'; clear hX'; go_simp; (try go_bits); first | done | exact rfl | exact ⟨rfl, rfl⟩); go_simp; refine hK _ _ ?_; clear hK K)
      (apply wpOrd_comes; ((· first | (rw [List.getElem?_toArray, List.getElem?_cons_zero]; done) | (simp only [List.getElem?_toArray, List.getElem?_cons_succ, List.getElem?_cons_zero]; exact rfl))); intro N hN)
      go_wp2_with (go_at_call 71; (with_reducible refine (HB0.out _).mono ?_); rintro v X2 ⟨rfl, rfl⟩)
      refine hN _ _ (fun _ => hX) ?_
      clear hN N
      repeat (apply wpOrd_class; ((· first | (rw [List.getElem?_toArray, List.getElem?_cons_zero]; done) | (simp only [List.getElem?_toArray, List.getElem?_cons_succ, List.getElem?_cons_zero]; exact rfl))); (· exact rfl); intro K hK; apply Exists.intro; refine And.intro (fun X' hX' => ?_) ?_; (· obtain ⟨hq1, hq2, hq3⟩ := HC3.out _ hX'; clear hX'; go_simp; (try go_bits); first | done | exact rfl | exact ⟨rfl, rfl⟩); go_simp; refine hK _ _ ?_; clear hK K)
      refine wpOrd_done ?_
      have HX := hid hX
      clear hX
      obtain ⟨c4, c5, c6, c7, _, _⟩ := HC.out X HX.out
      obtain ⟨c0, c1, c2⟩ := HC3.out X HX.out
      have c3 := HC4.out X HX.out
      go_wp2_with (refine wpList_store_box 109 _ _ rfl gv rfl rfl (w32 [tu, v0, v1, v2, v3t, v4, v5, v6]) rfl 8 size8w HN8.out (w32_one _) 109 _ HX.out.blk HV8.out ?_; intro W5 hB hT hs; have H5 := hid (HX.out.put hB hT); clear hB hT hs)
      rw [← HST.out] at H5
      go_roundw
      case rel => exact ⟨i + 1, by omega, by go_num, H5⟩
      case measure => simp [intOf]; omega
    · have e1 : ¬ (i : Int) < 64 := by omega
      obtain rfl : i = 64 := by omega
      obtain ⟨V, hV⟩ : ∃ V, V = roundsTo h ws 64 := ⟨_, rfl⟩
      have HV8 := hid (show V.length = 8 by rw [hV]; exact roundsTo_len HHL.out 64)
      have HVE := hid hV
      rw [← hV] at HS
      clear hV
      have H9 := hid HS.out.at4
      clear HS
      go_wp2_with fail
      go_loopw [10, 86] (fun _ v X => ∃ i : Nat, i ≤ 8 ∧ v = .int .i64 i ∧ Hid (St w [Blk gh (w32 (addTo h V i)) 109, Blk gv (w32 V) 109, Blk gw (w32 ws) 123, Blk gr (w32 (List.replicate 8 0)) 109] X)) (fun _ v _ => 8 - (intOf v).toNat)
      case atStart => exact ⟨0, Nat.zero_le _, rfl, H9⟩
      case round =>
        clear H9
        obtain ⟨i, hi, rfl, HS⟩ := hrel
        by_cases hlt : i < 8
        · have e1 : (i : Int) < 8 := by omega
          have e0 : (0 : Int) ≤ (i : Int) := by omega
          obtain ⟨x, hx⟩ : ∃ x, x = (addTo h V i).getD i 0 := ⟨_, rfl⟩
          obtain ⟨y, hy⟩ : ∃ x, x = V.getD i 0 := ⟨_, rfl⟩
          obtain ⟨z, hz⟩ : ∃ z, z = x + y := ⟨_, rfl⟩
          have E1 : ((x.toNat : Int) + (y.toNat : Int)) % 4294967296 = (z.toNat : Int) := by rw [hz]; exact add_u32 _ _
          have HY := hid (show (addTo h V i).set i z = addTo h V (i + 1) by rw [addTo, hz, hx, hy])
          have HC := hid (show ∀ X, St w [Blk gh (w32 (addTo h V i)) 109, Blk gv (w32 V) 109, Blk gw (w32 ws) 123, Blk gr (w32 (List.replicate 8 0)) 109] X → X.cell? ⟨gh, i, none⟩ = some (.int .u32 (x.toNat : Int)) ∧ X.cell? ⟨gv, i, none⟩ = some (.int .u32 (y.toNat : Int)) from fun X hX => ⟨by rw [hx]; exact wblk_cell hX (by rw [addTo_len HHL.out]; exact hlt), by rw [hy]; exact wblk_cell hX.at2 (by rw [HV8.out]; exact hlt)⟩)
          clear hx hy hz
          go_wp2_with fail
          refine wp_region_ord [8] [(0, 1), (1, 1), (2, 1), (3, 1), (4, 1), (5, 1), (6, 1), (7, 1), (8, 2)] (fun X => St w [Blk gh (w32 (addTo h V i)) 109, Blk gv (w32 V) 109, Blk gw (w32 ws) 123, Blk gr (w32 (List.replicate 8 0)) 109] X) (by kernel_rfl) (by kernel_rfl) (fun d _ c _ _ h => by cases d <;> exact h) (HS.out.turn (Below.drew (Below.refl _ _))) (fun X hXe hX => ?_)
          clear hXe HS
          repeat (apply wpOrd_class; ((· first | (rw [List.getElem?_toArray, List.getElem?_cons_zero]; done) | (simp only [List.getElem?_toArray, List.getElem?_cons_succ, List.getElem?_cons_zero]; exact rfl))); (· exact rfl); intro K hK; apply Exists.intro; refine And.intro (fun X' hX' => ?_) ?_; (· obtain ⟨hq1, hq2⟩ := HC.out _ hX'; clear hX'; go_simp; (try go_bits); first | done | exact rfl | exact ⟨rfl, rfl⟩); go_simp; refine hK _ _ ?_; clear hK K)
          obtain ⟨c3, _⟩ := HC.out X hX
          have f3 := frozen_of_row X gh i _ _ hX.blk
          (apply wpOrd_comes; ((· first | (rw [List.getElem?_toArray, List.getElem?_cons_zero]; done) | (simp only [List.getElem?_toArray, List.getElem?_cons_succ, List.getElem?_cons_zero]; exact rfl))); intro N hN)
          go_wp2_with fail
          have H3 := hid (hX.setCell i (.int .u32 (z.toNat : Int)))
          rw [w32_set, HY.out] at H3
          clear hX c3 f3
          refine hN _ _ (fun h => by cases h) ?_
          clear hN N
          refine wpOrd_done ?_
          go_wp2_with fail
          go_roundw
          case rel => exact ⟨i + 1, by omega, by go_num, H3⟩
          case measure => simp [intOf]; omega
        · have e1 : ¬ (i : Int) < 8 := by omega
          obtain rfl : i = 8 := by omega
          have HZ := hid ((w32_size (addTo h V 8)).trans (addTo_len HHL.out 8))
          have LB : (loadK 109 (.pointer (some ⟨gh, 0, none⟩))).run Tryd.prog wr = .ok (.value (.agg (w32 (addTo h V 8)))) wr := run_loadK_box HS.out.blk Tryd.underlying109 rfl size8w HZ.out
          go_wp2_with (refine wpList_store_box 109 _ _ rfl gr rfl rfl (w32 (addTo h V 8)) rfl 8 size8w HZ.out (w32_one _) 109 _ HS.out.at4.blk HZ8.out ?_; intro W5 hB5 hT5 hs5; have H5 := hid (HS.out.at4.put hB5 hT5))
          exact bodyPost_ret (results_cell rfl _ _ _ gr 109 (w32 _) (0, 0) rfl hB5 Tryd.underlying109 (by rw [HZ.out]; exact size8w)) rfl ⟨by rw [← HVE.out], H5.out.below⟩
end Go.Proofs.YtnakbdgoaepehaaDoor
