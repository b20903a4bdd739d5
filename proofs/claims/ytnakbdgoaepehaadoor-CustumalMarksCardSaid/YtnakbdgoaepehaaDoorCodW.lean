/- The codec's writer. -/
import Derived.Test.YtnakbdgoaepehaaDoorHmOf
namespace Go.Cu
open Go Go.RowKit
section
variable {W0 W : World} {L : List Atm}
/-- A writer that holds m. -/
abbrev Wrt (tw g : Nat) (A : Option Addr) (c : Nat) (m : List UInt8) (L : List Atm) : List Atm := Blk g #[.slice A m.length c, .bool false] tw :: Row (.slice A m.length c) 5 1 m.length (bvL m) :: L
theorem wrt_cells {tw g : Nat} {A : Option Addr} {c : Nat} {m : List UInt8} (h : St W0 (Wrt tw g A c m L) W) : W.cell? ⟨g, 0, none⟩ = some (.slice A m.length c) ∧ W.cell? ⟨g, 1, none⟩ = some (.bool false) ∧ W.frozen? ⟨g, 0, none⟩ = false :=
  ⟨(cell_of_row W g 0 _ _ _ h.blk).trans rfl, (cell_of_row W g 1 _ _ _ h.blk).trans rfl, frozen_of_row W g 0 _ _ h.blk⟩
theorem wrt_cells' {tw g : Nat} {v : Value} {M : List Atm} (h : St W0 (Blk g #[v, .bool false] tw :: M) W) : W.cell? ⟨g, 0, none⟩ = some v ∧ W.cell? ⟨g, 1, none⟩ = some (.bool false) ∧ W.frozen? ⟨g, 0, none⟩ = false :=
  ⟨(cell_of_row W g 0 _ _ _ h.blk).trans rfl, (cell_of_row W g 1 _ _ _ h.blk).trans rfl, frozen_of_row W g 0 _ _ h.blk⟩
theorem bvL_app (l m : List UInt8) : bvL (l ++ m) = bvL l ++ bvL m := by unfold bvL; rw [List.map_append]
end
end Go.Cu
namespace Go.Proofs.YtnakbdgoaepehaaDoor
open Go.RowKit Go.Cu
section
variable {W0 W : World} {L : List Atm} {g : Nat} {A : Option Addr} {c : Nat} {m : List UInt8}
set_option maxRecDepth 20000 in
set_option maxHeartbeats 4000000 in
theorem wbyte_st (h : St W0 (Wrt 45 g A c m L) W) (hm : m.length ≤ 1000000) (b : UInt8) :
    Calls Tryd.prog 36 #[.pointer (some ⟨g, 0, none⟩), .int .i64 b.toNat] W fun x w' => x = .returned (.tuple #[]) ∧ ∃ A' c', St W0 (Wrt 45 g A' c' (m ++ [b]) L) w' := by
  have HH := hid h
  obtain ⟨x0, x1, f0⟩ := wrt_cells h
  obtain ⟨i5, hi, hiz, his, hib⟩ := info_parts info5
  have HI := hid (And.intro hi (And.intro hiz (And.intro his hib)))
  have hb := UInt8.toNat_lt b
  have n0 : ¬ (b.toNat : Int) < 0 := by omega
  have n1 : ¬ (255 : Int) < (b.toNat : Int) := by omega
  have d0 : decide ((b.toNat : Int) < 0) = false := decide_eq_false n0
  have d1 : decide ((255 : Int) < (b.toNat : Int)) = false := decide_eq_false n1
  have hmod : (b.toNat : Int) % 256 = (b.toNat : Int) := by omega
  clear h hi hiz his hib
  go_enter Tryd.func36, Tryd.ntmps36
  go_wp2_with (first | (refine wpList_buildSlice1 _ rfl (.int .u8 b.toNat) (by simp [Act.eval]) rfl Tryd.underlying42 zero5s size5s (by decide) (by decide) rfl ?_; intro gn X4 hS hgs hges hX1b; have H4 := hid (HH.out.turn hX1b); have HNW := hid (news_box hS [.int .u8 b.toNat] rfl); clear hS hgs hges hX1b x0 x1 f0) | (refine wpList_append_at _ _ _ rfl (.slice A m.length c) rfl ⟨gn, 0, none⟩ 1 1 rfl rfl 5 i5 (.int .u8 0) 1 1 Tryd.underlying42 HI.out.1 HI.out.2.1 HI.out.2.2.1 HI.out.2.2.2 rfl (by decide) m.length (bvL m) H4.out.at2.row [.int .u8 b.toNat] rfl HNW.out (by simp [Value.oneCell']) (by unfold maxLen; omega) (by omega) ?_; intro v' X5 hO2 hT2 hfr; have H5 := hid (H4.out.at2.grow hO2 hT2 hfr); clear hO2 hT2 hfr; obtain ⟨B1, d1, hv', _⟩ := row_slice H5.out; subst hv'; obtain ⟨x0, x1, f0⟩ := wrt_cells' H5.out.at2))
  go_end0
  refine ⟨rfl, B1, d1, ?_⟩
  have h6 := H5.out.at2.setCell 0 (.slice B1 (m.length + 1) d1)
  have e1 : (m ++ [b]).length = m.length + 1 := by simp
  have e2 : bvL (m ++ [b]) = bvL m ++ [.int .u8 b.toNat] := by simp [bvL]
  rw [← e2] at h6
  unfold Wrt
  rw [e1]
  exact h6
set_option maxRecDepth 20000 in
set_option maxHeartbeats 4000000 in
theorem wtext_st (h : St W0 (Wrt 45 g A c m L) W) (hm : m.length ≤ 1000000) {B : Option Addr} {cb : Nat} {a : List UInt8} (ha : ∀ X, St W0 L X → BytesIn X B a) (hal : a.length ≤ 65535) :
    Calls Tryd.prog 13 #[.pointer (some ⟨g, 0, none⟩), .slice B a.length cb] W fun x w' => x = .returned (.tuple #[]) ∧ ∃ A' c', St W0 (Wrt 45 g A' c' (m ++ (UInt8.ofNat (a.length / 256) :: UInt8.ofNat a.length :: a)) L) w' := by
  have HH := hid h
  have HB := hid ha
  obtain ⟨x0, x1, f0⟩ := wrt_cells h
  obtain ⟨i5, hi, hiz, his, hib⟩ := info_parts info5
  have HI := hid (And.intro hi (And.intro hiz (And.intro his hib)))
  have n1 : ¬ (65535 : Int) < (a.length : Int) := by omega
  obtain ⟨b0, hb0⟩ : ∃ b, b = UInt8.ofNat (a.length / 256) := ⟨_, rfl⟩
  obtain ⟨b1, hb1⟩ : ∃ b, b = UInt8.ofNat a.length := ⟨_, rfl⟩
  have E0 : (a.length : Int) / 256 = (b0.toNat : Int) := by rw [hb0, u8_cast]; omega
  have E1 : (a.length : Int) % 256 = (b1.toNat : Int) := by rw [hb1, u8_cast]
  rw [← hb0, ← hb1]
  clear h hi hiz his hib hb0 hb1 ha
  go_enter Tryd.func13, Tryd.ntmps13
  go_wp2_with (first | (refine wpList_buildSlice2 _ rfl (.int .u8 b0.toNat) (.int .u8 b1.toNat) (by simp [Act.eval, E1]) rfl Tryd.underlying42 zero5s size5s (by decide) (by decide) rfl rfl ?_; intro gn X4 hS hgs hges hX1b; have H4 := hid (HH.out.turn hX1b); have HNW := hid (news_box hS [.int .u8 b0.toNat, .int .u8 b1.toNat] rfl); clear hS hgs hges hX1b x0 x1 f0) | (refine wpList_append_at _ _ _ rfl (.slice A m.length c) rfl ⟨gn, 0, none⟩ 2 2 rfl rfl 5 i5 (.int .u8 0) 1 1 Tryd.underlying42 HI.out.1 HI.out.2.1 HI.out.2.2.1 HI.out.2.2.2 rfl (by decide) m.length (bvL m) H4.out.at2.row [.int .u8 b0.toNat, .int .u8 b1.toNat] rfl HNW.out (by simp [Value.oneCell']) (by unfold maxLen; omega) (by omega) ?_; intro v' X5 hO2 hT2 hfr; have H5 := hid (H4.out.at2.grow hO2 hT2 hfr); clear hO2 hT2 hfr; obtain ⟨B1, d1, hv', _⟩ := row_slice H5.out; subst hv') | (refine wpList_append_bytes _ _ _ rfl (.slice B1 (m.length + 2) d1) rfl B cb a rfl rfl 5 i5 Tryd.underlying42 HI.out.1 HI.out.2.1 HI.out.2.2.1 HI.out.2.2.2 (m.length + 2) _ H5.out.row (HB.out _ H5.out.drop.drop) (by omega) ?_; intro v' X6 hO2 hT2 hfr; have H6 := hid (H5.out.grow hO2 hT2 hfr); clear hO2 hT2 hfr; obtain ⟨B2, d2, hv', _⟩ := row_slice H6.out; subst hv'; obtain ⟨x0, x1, f0⟩ := wrt_cells' H6.out.at2))
  go_end0
  refine ⟨rfl, B2, d2, ?_⟩
  have h7 := H6.out.at2.setCell 0 (.slice B2 (m.length + 2 + a.length) d2)
  have e1 : (m ++ (b0 :: b1 :: a)).length = m.length + 2 + a.length := by simp; omega
  have e2 : bvL (m ++ (b0 :: b1 :: a)) = bvL m ++ [.int .u8 b0.toNat, .int .u8 b1.toNat] ++ bvL a := by simp [bvL]
  rw [← e2] at h7
  unfold Wrt
  rw [e1]
  exact h7
/-- A number as eight bytes. -/
def num8 (n : Int) : List UInt8 := be8 (IntKind.u64.wrap n).toNat
theorem u64_nat (n : Int) : IntKind.u64.wrap n = ((IntKind.u64.wrap n).toNat : Int) := by
  have h : 0 ≤ IntKind.u64.wrap n := by
    show 0 ≤ n % 18446744073709551616
    omega
  omega
theorem be8_step (N : Nat) {i : Nat} (hi : i < 8) : (be8 N).take i ++ [UInt8.ofNat (N / 2 ^ (8 * (7 - i)))] = (be8 N).take (i + 1) := by
  rw [List.take_add_one, be8_get N hi]; rfl
set_option maxRecDepth 20000 in
set_option maxHeartbeats 4000000 in
theorem wnum_st (h : St W0 (Wrt 45 g A c m L) W) (hm : m.length ≤ 900000) (n : Int) :
    Calls Tryd.prog 14 #[.pointer (some ⟨g, 0, none⟩), .int .i64 n] W fun x w' => x = .returned (.tuple #[]) ∧ ∃ A' c', St W0 (Wrt 45 g A' c' (m ++ num8 n) L) w' := by
  have HH := hid h
  have EN := u64_nat n
  unfold num8
  obtain ⟨N, hN⟩ : ∃ N, N = (IntKind.u64.wrap n).toNat := ⟨_, rfl⟩
  rw [← hN] at EN ⊢
  have HWB := hid (fun X A' c' l (hX : St W0 (Wrt 45 g A' c' l L) X) (hl : l.length ≤ 1000000) (b : UInt8) (z : Int) (hz : z = (b.toNat : Int)) => show Calls Tryd.prog 36 #[.pointer (some ⟨g, 0, none⟩), .int .i64 z] X fun x w' => x = .returned (.tuple #[]) ∧ ∃ A' c', St W0 (Wrt 45 g A' c' (l ++ [b]) L) w' from hz ▸ wbyte_st hX hl b)
  clear h hN
  go_enter Tryd.func14, Tryd.ntmps14
  go_wp2_with fail
  go_loopw [4] (fun kv X => ∃ (i : Nat) (j : Int) (A1 : Option Addr) (c1 : Nat), i ≤ 8 ∧ j = 7 - (i : Int) ∧ kv = .int .i64 j ∧ Hid (St W0 (Wrt 45 g A1 c1 (m ++ (be8 N).take i) L) X)) (fun kv _ => (intOf kv + 1).toNat)
  case atStart => exact ⟨0, 7, A, c, by omega, by omega, rfl, hid (by rw [List.take_zero, List.append_nil]; exact HH.out)⟩
  case round =>
    clear HH
    obtain ⟨i, j, A1, c1, hi, hj, rfl, HS⟩ := hrel
    have HJ := hid hj
    by_cases hlt : i < 8
    · have e1 : (0 : Int) ≤ j := by omega
      have e2 : j ≤ 7 := by omega
      obtain ⟨b, hb⟩ : ∃ b, b = UInt8.ofNat (N / 2 ^ (8 * (7 - i))) := ⟨_, rfl⟩
      have HST := hid (show (be8 N).take i ++ [b] = (be8 N).take (i + 1) by rw [hb]; exact be8_step N hlt)
      have EB : (N : Int) / 2 ^ (8 * j).toNat % 256 = (b.toNat : Int) := by
        rw [hb, u8_cast, show (8 * j).toNat = 8 * (7 - i) by omega]
        simp
      have HLE := hid (show (m ++ (be8 N).take i).length ≤ 1000000 by rw [List.length_append, List.length_take, be8_len]; omega)
      clear hj hb
      go_wp2_with (go_at_call 36; (with_reducible refine (HWB.out _ _ _ _ HS.out HLE.out b _ rfl).mono ?_); rintro x X5 ⟨rfl, A5, c5, h5⟩; rw [List.append_assoc, HST.out] at h5; have H5 := hid h5; clear h5)
      go_roundw
      case rel => exact ⟨i + 1, j - 1, A5, c5, by omega, by rw [HJ.out]; omega, by go_num, H5⟩
      case measure => (simp [intOf] <;> omega)
    · have e1 : ¬ (0 : Int) ≤ j := by omega
      obtain rfl : i = 8 := by omega
      have ht : (be8 N).take 8 = be8 N := List.take_of_length_le (by rw [be8_len]; exact Nat.le_refl _)
      rw [ht] at HS
      go_wp2_with fail
      go_end0
      exact ⟨rfl, A1, c1, HS.out⟩
theorem eqnilB (a : Addr) (n c : Nat) (W : World) : (binOp .eql 42 (.slice (some a) n c) (.slice none 0 0)).run Tryd.prog W = .ok (.bool false) W := by kernel_rfl
set_option maxRecDepth 20000 in
set_option maxHeartbeats 4000000 in
theorem bclone_st (h : St W0 L W) {B : Addr} {cb : Nat} {b : List UInt8} (hb : ∀ X, St W0 L X → BytesIn X (some B) b) (hl : b.length ≤ 1000000) :
    Calls Tryd.prog 37 #[.slice (some B) b.length cb] W fun x w' => ∃ D d, x = .returned (.slice D b.length d) ∧ St W0 (Row (.slice D b.length d) 5 1 b.length (bvL b) :: L) w' := by
  have HH := hid h
  have HB := hid hb
  obtain ⟨i5, hi, hiz, his, hib⟩ := info_parts info5
  have HI := hid (And.intro hi (And.intro hiz (And.intro his hib)))
  clear h hb hi hiz his hib
  have EN := eqnilB
  go_enter Tryd.func37, Tryd.ntmps37
  go_wp2_with (first | (refine wpList_buildSlice0 rfl rfl Tryd.underlying42 size5s ?_; intro gs X1 hS hgs hges hX1; have H1 := hid (HH.out.newRow0 (e := 5) (s := 1) hX1 hges hS); clear hS hgs hges hX1) | (refine wpList_append_bytes _ _ _ rfl (.slice (some ⟨gs, 0, none⟩) 0 0) rfl (some B) cb b rfl rfl 5 i5 Tryd.underlying42 HI.out.1 HI.out.2.1 HI.out.2.2.1 HI.out.2.2.2 0 [] H1.out.row (HB.out _ H1.out.drop) (by omega) ?_; intro v' X6 hO2 hT2 hfr; have H6 := hid (H1.out.grow hO2 hT2 hfr); clear hO2 hT2 hfr; rw [Nat.zero_add, List.nil_append] at H6; obtain ⟨B2, d2, hv', _⟩ := row_slice H6.out; subst hv'))
  go_ret
  exact ⟨B2, d2, rfl, H6.out⟩
theorem row_bytes {D : Option Addr} {n d e : Nat} {b : List UInt8} (h : St W0 (Row (.slice D n d) e 1 n (bvL b) :: L) W) (hn : n = b.length) : BytesIn W D b ∧ n ≤ d ∧ d ≤ maxLen := by
  subst hn
  have h1 := vals_one (h.row_val rfl) rfl
  exact h1
theorem row_some {D : Option Addr} {n d e s : Nat} {xs : List Value} (h : St W0 (Row (.slice D n d) e s n xs :: L) W) (hn : n ≠ 0) : ∃ g, D = some ⟨g, 0, none⟩ := by
  rcases h.row.2 with ⟨_, h1⟩ | ⟨g, cap, cur, hv, _⟩
  · exact absurd h1 hn
  · cases hv
    exact ⟨g, rfl⟩
set_option maxRecDepth 20000 in
set_option maxHeartbeats 4000000 in
theorem wbytes_st (h : St W0 (Wrt 45 g A c m L) W) (hm : m.length ≤ 1000000) (h0 : m.length ≠ 0) :
    Calls Tryd.prog 15 #[.pointer (some ⟨g, 0, none⟩)] W fun x w' => ∃ D d, x = .returned (.tuple #[.slice (some ⟨D, 0, none⟩) m.length d, .int .i64 0]) ∧ m.length ≤ d ∧ d ≤ maxLen ∧ St W0 (Row (.slice (some ⟨D, 0, none⟩) m.length d) 5 1 m.length (bvL m) :: Wrt 45 g A c m L) w' := by
  have HH := hid h
  obtain ⟨x0, x1, f0⟩ := wrt_cells h
  obtain ⟨g1, rfl⟩ := row_some h.at2 h0
  have HC := hid (bclone_st (cb := c) h (fun X hX => (row_bytes hX.at2 rfl).1) hm)
  clear h
  go_enter Tryd.func15, Tryd.ntmps15
  go_wp2_with (go_at_call 37; (with_reducible refine HC.out.mono ?_); rintro x X5 ⟨D, d, rfl, h5⟩; have H5 := hid h5; clear h5)
  obtain ⟨D1, rfl⟩ := row_some H5.out h0
  obtain ⟨_, hd1, hd2⟩ := row_bytes H5.out rfl
  go_ret2
  exact ⟨D1, d, rfl, hd1, hd2, H5.out⟩
end
end Go.Proofs.YtnakbdgoaepehaaDoor
