/- Part 6 of the texts below this law, put together: what each holds is said at its head. -/
import Derived.Test.YtnakbdgoaepehaaDoorLb5
import Derived.Laws.Bits64b
import Derived.Laws.BitsLemmas
import Derived.Lib.AppendZerosOnto
import Derived.Lib.Bytes
/- The codec's reader. -/
namespace Go.Cu
open Go Go.RowKit
section
variable {W0 W : World} {L : List Atm}
/-- A reader of all, at o. -/
abbrev Rdr (tr g gb C : Nat) (all : List UInt8) (o p : Nat) (L : List Atm) : List Atm := Blk g #[.slice (some ⟨gb, p, none⟩) (all.length - o) (C - o), .int .i64 0] tr :: Row (.slice (some ⟨gb, 0, none⟩) all.length C) 5 1 all.length (bvL all) :: L
theorem rdr_cells {tr g : Nat} {v : Value} {M : List Atm} (h : St W0 (Blk g #[v, .int .i64 0] tr :: M) W) : W.cell? ⟨g, 0, none⟩ = some v ∧ W.cell? ⟨g, 1, none⟩ = some (.int .i64 0) ∧ W.frozen? ⟨g, 0, none⟩ = false :=
  ⟨(cell_of_row W g 0 _ _ _ h.blk).trans rfl, (cell_of_row W g 1 _ _ _ h.blk).trans rfl, frozen_of_row W g 0 _ _ h.blk⟩
end
end Go.Cu
namespace Go.Proofs.YtnakbdgoaepehaaDoor
open Go.RowKit Go.Cu
theorem bits_or_i64_nat (a b : Nat) (ha : a < 65536) (hb : b < 65536) : bits .or .i64 (a : Int) (b : Int) = ((a ||| b : Nat) : Int) := by
  have hx : a ||| b < 2 ^ 16 := Nat.or_lt_two_pow (by omega) (by omega)
  have h1 : (BitVec.ofInt 64 (a : Int)).toNat = a := by
    rw [BitVec.ofInt_natCast, BitVec.toNat_ofNat]; exact Nat.mod_eq_of_lt (by omega)
  have h2 : (BitVec.ofInt 64 (b : Int)).toNat = b := by
    rw [BitVec.ofInt_natCast, BitVec.toNat_ofNat]; exact Nat.mod_eq_of_lt (by omega)
  show IntKind.i64.wrap ((BitVec.ofInt 64 (a : Int) ||| BitVec.ofInt 64 (b : Int)).toNat : Int) = _
  rw [BitVec.toNat_or, h1, h2, IntKind.wrap_i64]
  omega
theorem or_bytes {h l : Nat} (hh : h < 256) (hl : l < 256) : bits .or .i64 ((h : Int) * 256) (l : Int) = ((h * 256 + l : Nat) : Int) := by
  have e := bits_or_i64_nat (h * 256) l (by omega) (by omega)
  rw [show ((h * 256 : Nat) : Int) = (h : Int) * 256 from by omega] at e
  rw [e]
  rw [show h * 256 = 2 ^ 8 * h by omega, ← Nat.two_pow_add_eq_or_of_lt (i := 8) (show l < 2 ^ 8 by omega) h]
theorem or_next (q : Nat) (b : UInt8) : bits .or .i64 (wrap64 (wrap64 (q : Int) * 256)) (b.toNat : Int) = wrap64 ((q * 256 + b.toNat : Nat) : Int) := by
  have hb := UInt8.toNat_lt b
  generalize b.toNat = c at *
  have h1 : (BitVec.ofInt 64 (wrap64 (wrap64 (q : Int) * 256))).toNat = 2 ^ 8 * (q % 2 ^ 56) := by
    rw [BitVec.toNat_ofInt]
    unfold wrap64
    omega
  have h2 : (BitVec.ofInt 64 (c : Int)).toNat = c := by
    rw [BitVec.ofInt_natCast, BitVec.toNat_ofNat]; exact Nat.mod_eq_of_lt (by omega)
  show IntKind.i64.wrap ((BitVec.ofInt 64 (wrap64 (wrap64 (q : Int) * 256)) ||| BitVec.ofInt 64 (c : Int)).toNat : Int) = _
  rw [BitVec.toNat_or, h1, h2, IntKind.wrap_i64, ← Nat.two_pow_add_eq_or_of_lt (i := 8) (show c < 2 ^ 8 by omega)]
  unfold wrap64
  omega
theorem acc_step (N i : Nat) (hi : i < 8) (b : UInt8) (hb : b = UInt8.ofNat (N / 2 ^ (8 * (7 - i)))) : bits .or .i64 (wrap64 (wrap64 ((N / 2 ^ (8 * (8 - i)) : Nat) : Int) * 256)) (b.toNat : Int) = wrap64 ((N / 2 ^ (8 * (8 - (i + 1))) : Nat) : Int) := by
  rw [or_next, hb, UInt8.toNat_ofNat']
  have e1 : 8 * (8 - i) = 8 * (8 - (i + 1)) + 8 := by omega
  have e2 : 8 * (7 - i) = 8 * (8 - (i + 1)) := by omega
  rw [e1, e2, Nat.pow_add, ← Nat.div_div_eq_div_mul]
  congr 2
  omega
section
variable {W0 W : World} {L : List Atm} {g gb C : Nat} {all : List UInt8} {o : Nat}
set_option maxRecDepth 20000 in
set_option maxHeartbeats 4000000 in
theorem rtake_st (h : St W0 (Rdr 90 g gb C all o o L) W) {k : Nat} (hk : o + k ≤ all.length) (hC : all.length ≤ C) :
    Calls Tryd.prog 41 #[.pointer (some ⟨g, 0, none⟩), .int .i64 k] W fun x w' => x = .returned (.slice (some ⟨gb, o, none⟩) k (C - o)) ∧ ∃ p, (o + k < all.length → p = o + k) ∧ St W0 (Rdr 90 g gb C all (o + k) p L) w' := by
  have HH := hid h
  obtain ⟨x0, x1, f0⟩ := rdr_cells h
  have n1 : ¬ ((all.length - o : Nat) : Int) < (k : Int) := by omega
  have n2 : (k : Int) ≤ ((C - o : Nat) : Int) := by omega
  have n3 : (k : Int) ≤ ((all.length - o : Nat) : Int) := by omega
  have n0 : (0 : Int) ≤ (k : Int) := by omega
  have k1 : k ≤ C - o := by omega
  have k2 : k ≤ all.length - o := by omega
  have HE := hid (show all.length - o - k = all.length - (o + k) ∧ C - o - k = C - (o + k) by omega)
  have HK := hid hk
  have HC := hid hC
  clear h
  by_cases hck : C - o = k
  · go_enter Tryd.func41, Tryd.ntmps41
    go_wp2_with fail
    go_ret
    refine ⟨rfl, o, fun hlt => absurd hlt (by omega), ?_⟩
    have h6 := HH.out.setCell 0 (.slice (some ⟨gb, o, none⟩) (all.length - o - k) 0)
    have e1 : C - (o + k) = 0 := by omega
    unfold Rdr
    rw [e1, ← HE.out.1]
    exact h6
  · go_enter Tryd.func41, Tryd.ntmps41
    go_wp2_with fail
    go_ret
    refine ⟨rfl, o + k, fun _ => rfl, ?_⟩
    have h6 := HH.out.setCell 0 (.slice (some ⟨gb, o + k, none⟩) (all.length - o - k) (C - o - k))
    rw [HE.out.1, HE.out.2] at h6 ⊢
    exact h6
set_option maxRecDepth 20000 in
set_option maxHeartbeats 4000000 in
theorem rend_st {p : Nat} (h : St W0 (Rdr 90 g gb C all all.length p L) W) :
    Calls Tryd.prog 22 #[.pointer (some ⟨g, 0, none⟩)] W fun x w' => x = .returned (.int .i64 0) ∧ St W0 (Rdr 90 g gb C all all.length p L) w' := by
  have HH := hid h
  obtain ⟨x0, x1, f0⟩ := rdr_cells h
  rw [Nat.sub_self] at x0
  clear h
  go_enter Tryd.func22, Tryd.ntmps22
  go_wp2_with fail
  go_ret
  exact ⟨rfl, HH.out⟩
set_option maxRecDepth 20000 in
set_option maxHeartbeats 8000000 in
theorem rtext_st (h : St W0 (Rdr 90 g gb C all 0 0 L) W) {a rest : List UInt8} (hall : all = UInt8.ofNat (a.length / 256) :: UInt8.ofNat a.length :: a ++ rest) (ha : a.length ≤ 300) (hr : 0 < rest.length) (hC : all.length ≤ C) :
    Calls Tryd.prog 18 #[.pointer (some ⟨g, 0, none⟩), .int .i64 300] W fun x w' => ∃ D d p, x = .returned (.slice D a.length d) ∧ (2 + a.length < all.length → p = 2 + a.length) ∧ St W0 (Row (.slice D a.length d) 5 1 a.length (bvL a) :: Rdr 90 g gb C all (2 + a.length) p L) w' := by
  have HH := hid h
  obtain ⟨x0, x1, f0⟩ := rdr_cells h
  have hl : all.length = 2 + a.length + rest.length := by rw [hall]; simp; omega
  have n1 : ¬ ((all.length - 0 : Nat) : Int) < 2 := by omega
  have n2 : ¬ (300 : Int) < (a.length : Int) := by omega
  have n3 : ¬ ((all.length - 0 : Nat) : Int) < 2 + (a.length : Int) := by omega
  have n4 : (0 : Int) < ((all.length - 0 : Nat) : Int) := by omega
  have n5 : (1 : Int) < ((all.length - 0 : Nat) : Int) := by omega
  obtain ⟨b0, hb0⟩ : ∃ b, b = UInt8.ofNat (a.length / 256) := ⟨_, rfl⟩
  obtain ⟨b1, hb1⟩ : ∃ b, b = UInt8.ofNat a.length := ⟨_, rfl⟩
  have HB := hid (fun X (M : List Atm) (hX : St W0 (Blk g #[.slice (some ⟨gb, 0, none⟩) (all.length - 0) (C - 0), .int .i64 0] 90 :: Row (.slice (some ⟨gb, 0, none⟩) all.length C) 5 1 all.length (bvL all) :: M) X) => show X.cell? ⟨g, 0, none⟩ = some (.slice (some ⟨gb, 0, none⟩) (all.length - 0) (C - 0)) ∧ X.cell? ⟨gb, 0, none⟩ = some (.int .u8 b0.toNat) ∧ X.cell? ⟨gb, 1, none⟩ = some (.int .u8 b1.toNat) from by
    obtain ⟨q1, _, _⟩ := row_bytes hX.at2 rfl
    obtain ⟨g1, o1, e1, _, c1⟩ := q1 0 b0 (by rw [hall, hb0]; rfl)
    obtain ⟨g2, o2, e2, _, c2⟩ := q1 1 b1 (by rw [hall, hb1]; rfl)
    cases e1; cases e2
    exact ⟨(rdr_cells hX).1, c1, c2⟩)
  have OB : bits .or .i64 ((b0.toNat : Int) * 256) (b1.toNat : Int) = (a.length : Int) := by
    rw [or_bytes (UInt8.toNat_lt _) (UInt8.toNat_lt _), hb0, hb1, UInt8.toNat_ofNat', UInt8.toNat_ofNat']
    congr 1
    omega
  have B0 := UInt8.toNat_lt b0
  have B1 := UInt8.toNat_lt b1
  have U0 : wrap64 (b0.toNat : Int) = (b0.toNat : Int) := by unfold wrap64; omega
  have U1 : wrap64 (b1.toNat : Int) = (b1.toNat : Int) := by unfold wrap64; omega
  have U2 : wrap64 ((b0.toNat : Int) * 256) = (b0.toNat : Int) * 256 := by unfold wrap64; omega
  have HALL := hid hall
  have HLN := hid hl
  have a0 : (0 : Int) ≤ (a.length : Int) := by omega
  have a1 : (a.length : Int) ≤ 300 := by omega
  obtain ⟨N, hN⟩ : ∃ N, N = all.length - 0 := ⟨_, rfl⟩
  have HH2 := hid (show St W0 (Blk g #[.slice (some ⟨gb, 0, none⟩) N C, .int .i64 0] 90 :: Row (.slice (some ⟨gb, 0, none⟩) all.length C) 5 1 all.length (bvL all) :: L) W by rw [hN]; exact HH.out)
  have HB2 := hid (fun X (hX : St W0 (Blk g #[.slice (some ⟨gb, 0, none⟩) N C, .int .i64 0] 90 :: Row (.slice (some ⟨gb, 0, none⟩) all.length C) 5 1 all.length (bvL all) :: L) X) => show X.cell? ⟨g, 0, none⟩ = some (.slice (some ⟨gb, 0, none⟩) N C) ∧ X.cell? ⟨gb, 0, none⟩ = some (.int .u8 b0.toNat) ∧ X.cell? ⟨gb, 1, none⟩ = some (.int .u8 b1.toNat) from by rw [hN] at hX ⊢; exact HB.out X L hX)
  rw [← hN, Nat.sub_zero] at x0
  rw [← hN] at n1 n3 n4 n5
  clear h hall hl hb0 hb1 B0 B1
  have hNl : N = all.length := hN
  have hCl : N ≤ C := by omega
  have m4 : 0 < N := by omega
  have m5 : 1 < N := by omega
  have HNL := hid hN
  have hNk : (2 : Int) + (a.length : Int) ≤ (N : Int) := by omega
  clear hN hNl
  go_enter Tryd.func18, Tryd.ntmps18
  go_wp2_with fail
  refine wp_region_ord [] [(0, 1), (1, 1), (2, 1), (3, 1), (4, 1), (5, 1), (6, 1), (7, 1), (8, 1), (9, 1), (10, 1), (11, 1), (12, 1), (13, 1), (14, 1), (15, 1), (16, 1)] (fun X => St W0 (Blk g #[.slice (some ⟨gb, 0, none⟩) N C, .int .i64 0] 90 :: Row (.slice (some ⟨gb, 0, none⟩) all.length C) 5 1 all.length (bvL all) :: L) X) (by kernel_rfl) (by kernel_rfl) (fun d _ c _ _ h => by cases d <;> exact h) (HH2.out.turn (Below.drew (Below.refl _ _))) (fun X hXe hX => ?_)
  clear hXe HH HH2 x0 x1 f0
  repeat (first | (apply wpOrd_class; ((· first | (rw [List.getElem?_toArray, List.getElem?_cons_zero]; done) | (simp only [List.getElem?_toArray, List.getElem?_cons_succ, List.getElem?_cons_zero]; exact rfl))); (· exact rfl); intro K hK; apply Exists.intro; refine And.intro (fun X' hX' => ?_) ?_; (· obtain ⟨hq1, hq2, hq3⟩ := HB2.out _ hX'; clear hX'; go_simp; (try go_bits); first | done | exact rfl | exact ⟨rfl, rfl⟩); go_simp; refine hK _ _ ?_; clear hK K) | (apply wpOrd_skip1; ((· first | (rw [List.getElem?_toArray, List.getElem?_cons_zero]; done) | (simp only [List.getElem?_toArray, List.getElem?_cons_succ, List.getElem?_cons_zero]; exact rfl))); (· exact rfl); intro K hK; go_simp; refine hK _ _ ?_; clear hK K))
  refine wpOrd_done ?_
  have HX := hid hX
  obtain ⟨x0, x1, f0⟩ := rdr_cells hX
  have HTK := hid (show Calls Tryd.prog 41 #[.pointer (some ⟨g, 0, none⟩), .int .i64 (2 + (a.length : Int))] X fun x w' => x = .returned (.slice (some ⟨gb, 0, none⟩) (2 + a.length) C) ∧ ∃ p, (2 + a.length < all.length → p = 2 + a.length) ∧ St W0 (Rdr 90 g gb C all (2 + a.length) p L) w' from by
    have h1 := rtake_st (o := 0) (k := 2 + a.length) (show St W0 (Rdr 90 g gb C all 0 0 L) X by unfold Rdr; rw [← HNL.out]; exact hX) (by have := HLN.out; omega) hC
    rw [Nat.zero_add] at h1
    rw [show (2 : Int) + (a.length : Int) = ((2 + a.length : Nat) : Int) by omega]
    exact h1)
  have HCL := hid (fun Y p (hY : St W0 (Rdr 90 g gb C all (2 + a.length) p L) Y) => show Calls Tryd.prog 37 #[.slice (some ⟨gb, 2, none⟩) a.length (C - 2)] Y fun x w' => ∃ D d, x = .returned (.slice D a.length d) ∧ St W0 (Row (.slice D a.length d) 5 1 a.length (bvL a) :: Rdr 90 g gb C all (2 + a.length) p L) w' from bclone_st hY (fun Z hZ => by
    have h1 := ((row_bytes hZ.at2 rfl).1.shift 2).take a.length
    rw [HALL.out] at h1
    simpa using h1) (by omega))
  have hc1 : 2 + a.length ≤ C := by have := HLN.out; omega
  have hcn : ¬ C = 2 := by have := HLN.out; omega
  have hc2 : ((2 + a.length : Nat) : Int) ≤ (C : Int) := by omega
  clear hX HB HB2
  go_wp2_with (first | (go_at_call 41; (with_reducible refine HTK.out.mono ?_); rintro x X5 ⟨rfl, p, hp, h5⟩; have H5 := hid h5; have HPP := hid hp; clear h5 hp) | (go_at_call 37; (with_reducible refine (HCL.out _ _ H5.out).mono ?_); rintro x X6 ⟨D, d, rfl, h6⟩; have H6 := hid h6; clear h6))
  go_ret
  exact ⟨D, d, p, rfl, HPP.out, H6.out⟩
set_option maxRecDepth 20000 in
set_option maxHeartbeats 8000000 in
theorem rnum_st (h : St W0 (Rdr 90 g gb C all o o L) W) {n : Int} (hall : all.drop o = num8 n) (hn1 : -9223372036854775808 ≤ n) (hn2 : n ≤ 9223372036854775807) (hC : all.length ≤ C) :
    Calls Tryd.prog 19 #[.pointer (some ⟨g, 0, none⟩)] W fun x w' => x = .returned (.int .i64 n) ∧ ∃ p, St W0 (Rdr 90 g gb C all all.length p L) w' := by
  have HH := hid h
  have EN := u64_nat n
  unfold num8 at hall
  obtain ⟨N, hN⟩ : ∃ N, N = (IntKind.u64.wrap n).toNat := ⟨_, rfl⟩
  rw [← hN] at EN hall
  have hol : o + 8 = all.length := by
    have := congrArg List.length hall
    rw [List.length_drop, be8_len] at this
    omega
  have HEND := hid (show wrap64 (N : Int) = n from by
    have h1 : IntKind.u64.wrap n = n % 18446744073709551616 := rfl
    rw [← EN, h1]
    unfold wrap64
    omega)
  have HB := hid (fun X p (hX : St W0 (Rdr 90 g gb C all all.length p L) X) (i : Nat) (b : UInt8) (hi : i < 8) (hb : b = UInt8.ofNat (N / 2 ^ (8 * (7 - i)))) => show X.cell? ⟨gb, o + i, none⟩ = some (.int .u8 b.toNat) from by
    obtain ⟨q1, _, _⟩ := row_bytes hX.at2 rfl
    have h1 := be8_get N hi
    rw [← hall, List.getElem?_drop, ← hb] at h1
    obtain ⟨g1, o1, e1, _, c1⟩ := q1 (o + i) b h1
    cases e1
    rw [Nat.zero_add] at c1
    exact c1)
  have HTK := hid (show Calls Tryd.prog 41 #[.pointer (some ⟨g, 0, none⟩), .int .i64 8] W fun x w' => x = .returned (.slice (some ⟨gb, o, none⟩) 8 (C - o)) ∧ ∃ p, St W0 (Rdr 90 g gb C all all.length p L) w' from by
    have h1 := rtake_st (k := 8) h (by omega) hC
    rw [hol] at h1
    exact h1.mono fun e w' ⟨a, p, _, c⟩ => ⟨a, p, c⟩)
  have HNB := hid (show N < 2 ^ (8 * (8 - 0)) by
    have h1 : IntKind.u64.wrap n = n % 18446744073709551616 := rfl
    rw [h1] at EN
    omega)
  clear h hall hN EN hol
  go_enter Tryd.func19, Tryd.ntmps19
  go_wp2_with (go_at_call 41; (with_reducible refine HTK.out.mono ?_); rintro x X5 ⟨rfl, p, h5⟩; have H5 := hid h5; clear h5)
  go_loopw [3, 5, 9] (fun av _ kv X => ∃ (i : Nat) (acc : Int), i ≤ 8 ∧ av = .int .i64 acc ∧ kv = .int .i64 i ∧ Hid (acc = wrap64 ((N / 2 ^ (8 * (8 - i)) : Nat) : Int)) ∧ Hid (St W0 (Rdr 90 g gb C all all.length p L) X)) (fun _ _ kv _ => 8 - (intOf kv).toNat)
  case atStart => exact ⟨0, 0, Nat.zero_le _, rfl, by go_num, hid (by
    have := HNB.out
    rw [Nat.div_eq_of_lt this]; unfold wrap64; omega), H5⟩
  case round =>
    clear H5 HTK HH
    obtain ⟨i, acc, hi, rfl, rfl, HAC, HS⟩ := hrel
    have i0 : (0 : Int) ≤ (i : Int) := by omega
    by_cases hlt : i < 8
    · have e1 : (i : Int) < 8 := by omega
      obtain ⟨b, hb⟩ : ∃ b, b = UInt8.ofNat (N / 2 ^ (8 * (7 - i))) := ⟨_, rfl⟩
      have hc := HB.out _ _ HS.out i b hlt hb
      have hst := acc_step N i hlt b hb
      rw [← HAC.out] at hst
      obtain ⟨ac2, hac2⟩ : ∃ x, x = wrap64 ((N / 2 ^ (8 * (8 - (i + 1))) : Nat) : Int) := ⟨_, rfl⟩
      rw [← hac2] at hst
      have HA2 := hid hac2
      have B0 := UInt8.toNat_lt b
      have U0 : wrap64 (b.toNat : Int) = (b.toNat : Int) := by unfold wrap64; omega
      clear hac2 hb B0
      go_wp2_with fail
      go_roundw
      case rel => exact ⟨i + 1, ac2, by omega, rfl, by go_num, HA2, HS⟩
      case measure => (simp [intOf] <;> omega)
    · have e1 : ¬ (i : Int) < 8 := by omega
      obtain rfl : i = 8 := by omega
      have HR := hid (show acc = n by rw [HAC.out, ← HEND.out]; simp)
      go_wp2_with fail
      go_ret
      rw [HR.out]
      exact ⟨rfl, p, HS.out⟩
end
end Go.Proofs.YtnakbdgoaepehaaDoor
/- Words of 64 bits, turned. -/
namespace Go.Cu
open Go Go.RowKit
/-- A word turned to the right. -/
def rotr64 (x : UInt64) (n : Nat) : UInt64 := UInt64.ofNat (x.toNat * 2 ^ (64 - n) % 18446744073709551616 ||| x.toNat / 2 ^ n)
theorem xor64 (a b : UInt64) : bits .xor .u64 (a.toNat : Int) (b.toNat : Int) = ((a ^^^ b).toNat : Int) := by
  rw [bits_xor_u64_nat _ _ (UInt64.toNat_lt _) (UInt64.toNat_lt _), UInt64.toNat_xor]
theorem and64 (a b : UInt64) : bits .and .u64 (a.toNat : Int) (b.toNat : Int) = ((a &&& b).toNat : Int) := by
  rw [bits_and_u64_nat _ _ (UInt64.toNat_lt _) (UInt64.toNat_lt _), UInt64.toNat_and]
theorem shr64_lt (x : UInt64) (n : Nat) : x.toNat / 2 ^ n < 18446744073709551616 := Nat.lt_of_le_of_lt (Nat.div_le_self _ _) (UInt64.toNat_lt x)
theorem or64_ex {a b : Nat} (ha : a < 18446744073709551616) (hb : b < 18446744073709551616) : bits .or .u64 (a : Int) (b : Int) = ((UInt64.ofNat (a ||| b)).toNat : Int) := by
  rw [bits_or_u64_nat _ _ ha hb, UInt64.toNat_ofNat', Nat.mod_eq_of_lt (Nat.or_lt_two_pow (n := 64) ha hb)]
theorem wrapU (z : Int) : IntKind.u64.wrap z = z % 18446744073709551616 := rfl
theorem add64 (a b : UInt64) : IntKind.u64.wrap ((a.toNat : Int) + (b.toNat : Int)) = ((a + b).toNat : Int) := by
  rw [wrapU, UInt64.toNat_add]
  omega
theorem rot64_val (x : UInt64) {m n : Nat} (hmn : m + n = 64) : bits .or .u64 (IntKind.u64.wrap ((x.toNat : Int) * 2 ^ m)) ((x.toNat : Int) / 2 ^ (64 - m)) = ((rotr64 x n).toNat : Int) := by
  rw [wrapU]
  have e1 : (x.toNat : Int) * 2 ^ m % 18446744073709551616 = ((x.toNat * 2 ^ m % 18446744073709551616 : Nat) : Int) := by simp
  have e2 : (x.toNat : Int) / 2 ^ (64 - m) = ((x.toNat / 2 ^ (64 - m) : Nat) : Int) := by simp
  rw [e1, e2, or64_ex (Nat.mod_lt _ (by decide)) (shr64_lt x _)]
  unfold rotr64
  rw [show 64 - n = m by omega, show 64 - m = n by omega]
end Go.Cu
namespace Go.Proofs.YtnakbdgoaepehaaDoor
open Go.RowKit Go.Cu
theorem rot64_any (x : UInt64) {k : Int} {m n : Nat} (hmn : m + n = 64) (hs : bits .and .u64 (IntKind.u64.wrap k) 63 = (m : Int)) (w : World) : Calls Tryd.prog 72 #[.int .u64 x.toNat, .int .i64 k] w fun r w' => r = .returned (.int .u64 (rotr64 x n).toNat) ∧ w = w' := by
  have h1 : (0 : Int) ≤ (m : Int) := by omega
  have h2 : (m : Int) ≤ 64 := by omega
  have HV := rot64_val x hmn
  clear hmn
  go_enter Tryd.func72, Tryd.ntmps72
  go_wp2
  go_ret
  exact ⟨rfl, rfl⟩
/-- The turns that a sum uses. -/
def turns64 : List Nat := [1, 8, 19, 61, 14, 18, 41, 28, 34, 39]
theorem turn64_any (x : UInt64) {n : Nat} (hn : n ∈ turns64) {ni : Int} (en : ni = n) (w : World) : Calls Tryd.prog 63 #[.int .u64 x.toNat, .int .i64 ni] w fun r w' => r = .returned (.int .u64 (rotr64 x n).toNat) ∧ w = w' := by
  subst en
  have HR := hid (show ∀ X, Calls Tryd.prog 72 #[.int .u64 x.toNat, .int .i64 (-(n : Int))] X fun r w' => r = .returned (.int .u64 (rotr64 x n).toNat) ∧ X = w' from fun X => by
    simp only [turns64, List.mem_cons, List.not_mem_nil, or_false] at hn
    rcases hn with rfl | rfl | rfl | rfl | rfl | rfl | rfl | rfl | rfl | rfl
    · exact rot64_any x (m := 63) rfl (by decide) X
    · exact rot64_any x (m := 56) rfl (by decide) X
    · exact rot64_any x (m := 45) rfl (by decide) X
    · exact rot64_any x (m := 3) rfl (by decide) X
    · exact rot64_any x (m := 50) rfl (by decide) X
    · exact rot64_any x (m := 46) rfl (by decide) X
    · exact rot64_any x (m := 23) rfl (by decide) X
    · exact rot64_any x (m := 36) rfl (by decide) X
    · exact rot64_any x (m := 30) rfl (by decide) X
    · exact rot64_any x (m := 25) rfl (by decide) X)
  have h1 : n ≤ 61 := by
    simp only [turns64, List.mem_cons, List.not_mem_nil, or_false] at hn
    omega
  clear hn
  go_enter Tryd.func63, Tryd.ntmps63
  go_wp2_with (go_at_call 72; (with_reducible refine (HR.out _).mono ?_); rintro r w1 ⟨rfl, rfl⟩)
  go_ret
  exact ⟨rfl, rfl⟩
end Go.Proofs.YtnakbdgoaepehaaDoor
/- A block as 80 words of 64 bits. -/
namespace Go.Cu
open Go Go.RowKit
/-- Words as cells. -/
def w64 (l : List UInt64) : Array Value := (l.map fun x => Value.int .u64 x.toNat).toArray
theorem w64_size (l : List UInt64) : (w64 l).size = l.length := by simp [w64]
theorem w64_get (l : List UInt64) {i : Nat} (h : i < l.length) : (w64 l)[i]? = some (.int .u64 ((l.getD i 0).toNat : Int)) := by simp [w64, h]
theorem w64_set (l : List UInt64) (i : Nat) (x : UInt64) : (w64 l).setIfInBounds i (.int .u64 (x.toNat : Int)) = w64 (l.set i x) := by
  apply Array.ext_getElem?
  intro j
  simp only [w64, Array.getElem?_setIfInBounds, List.getElem?_toArray, List.getElem?_map, List.getElem?_set, List.size_toArray, List.length_map]
  by_cases h : i = j
  · subst h
    by_cases h2 : i < l.length <;> simp [h2]
  · simp [h]
theorem w64_one (l : List UInt64) : ∀ u ∈ (w64 l).toList, u.oneCell' = true := by
  intro u hu
  simp only [w64, List.mem_map] at hu
  obtain ⟨b, _, rfl⟩ := hu
  rfl
theorem shl64 (x : UInt64) (b : UInt8) : bits .or .u64 (IntKind.u64.wrap ((x.toNat : Int) * 256)) (b.toNat : Int) = ((UInt64.ofNat (x.toNat * 256 % 18446744073709551616 ||| b.toNat)).toNat : Int) := by
  have hb := b.toNat_lt
  have e1 : IntKind.u64.wrap ((x.toNat : Int) * 256) = ((x.toNat * 256 % 18446744073709551616 : Nat) : Int) := by rw [wrapU]; simp
  rw [e1, or64_ex (Nat.mod_lt _ (by decide)) (by omega)]
theorem shr64 (x : UInt64) (d : Nat) : (x.toNat : Int) / (d : Int) = ((UInt64.ofNat (x.toNat / d)).toNat : Int) := by
  rw [UInt64.toNat_ofNat', Nat.mod_eq_of_lt (Nat.lt_of_le_of_lt (Nat.div_le_self _ _) (UInt64.toNat_lt x))]
  simp
end Go.Cu
namespace Go.Proofs.YtnakbdgoaepehaaDoor
open Go.RowKit Go.Cu
set_option maxRecDepth 20000 in
theorem zero80w (W : World) : (zeroValue 113).run Tryd.prog W = .ok (.agg (w64 (List.replicate 80 0))) W := by kernel_rfl
theorem size80w : (Tryd.prog.info? 113).map (·.size) = some 80 := by kernel_rfl
@[go_sem ↓] theorem ldktW80 (a : Act) (dst : Option Tmp) (x : Operand) (ty : TypeId) (pos : String) (after : Array Edge) (guard : Option (Nat × Bool)) :
      execOp a.eval { dst, op := .load 113 x, type := ty, pos, after, guard } = loadK 113 (a.eval x) := rfl
theorem lblk_cell {W0 W : World} {L : List Atm} {g t i : Nat} {l : List UInt64} (h : St W0 (Blk g (w64 l) t :: L) W) (hi : i < l.length) : W.cell? ⟨g, i, none⟩ = some (.int .u64 ((l.getD i 0).toNat : Int)) := (cell_of_row W g i _ _ _ h.blk).trans (w64_get l hi)
set_option maxRecDepth 20000 in
set_option maxHeartbeats 4000000 in
theorem spread5_ok {A : Option Addr} {n c : Nat} {bs : List UInt8} {w : World} (hb : BytesIn w A bs) (hl : 128 ≤ bs.length) (hn : bs.length = n) :
    Calls Tryd.prog 62 #[.slice A n c] w fun r w' => (∃ ws : List UInt64, ws.length = 80 ∧ r = .returned (.agg (w64 ws))) ∧ Below w.heap.size w w' := by
  obtain ⟨b0, hb0⟩ : ∃ b, bs[0]? = some b := ⟨_, List.getElem?_eq_getElem (by omega)⟩
  obtain ⟨gB, oB, rfl, _, _⟩ := hb 0 b0 hb0
  have HB := hid (show ∀ X i, Below w.heap.size w X → i < 128 → X.cell? ⟨gB, oB + i, none⟩ = some (.int .u8 (((bs.getD i 0).toNat : Nat) : Int)) from fun X i hX hi => by
    have hg := List.getElem?_eq_getElem (l := bs) (i := i) (by omega)
    obtain ⟨g, o, e, hg2, hc⟩ := hb i _ hg
    cases e
    rw [(hX.cell (p := ⟨gB, oB + i, none⟩) hg2).trans hc, List.getD_eq_getElem?_getD, hg]
    rfl)
  have hn128 : 128 ≤ n := by omega
  clear hb hb0 hn
  have tok : True := trivial
  go_enter Tryd.func62, Tryd.ntmps62
  go_wp2_with (first | (have _t := tok; refine wpList_alloc 113 rfl rfl (.agg (w64 (List.replicate 80 0))) zero80w ?_; intro g2 W1 h1 hl1 hg1 hW1; have H1 := hid ((St.start w).newBlk hW1 hg1 h1); clear h1 hl1 hg1 hW1 tok) | (refine wpList_alloc 113 rfl rfl (.agg (w64 (List.replicate 80 0))) zero80w ?_; intro g3 W2 h1 hl1 hg1 hW1; have H2 := hid (H1.out.newBlk hW1 hg1 h1); clear h1 hl1 hg1 hW1))
  go_loopw [4, 8] (fun _ v X => ∃ (i : Nat) (l : List UInt64), i ≤ 128 ∧ v = .int .i64 i ∧ Hid (l.length = 80) ∧ Hid (St w [Blk g3 (w64 l) 113, Blk g2 (w64 (List.replicate 80 0)) 113] X)) (fun _ v _ => 128 - (intOf v).toNat)
  case atStart => exact ⟨0, List.replicate 80 0, Nat.zero_le _, rfl, hid (List.length_replicate), H2⟩
  case round =>
    clear H1 H2
    obtain ⟨i, l, hi, rfl, HL, HS⟩ := hrel
    by_cases hlt : i < 128
    · have e1 : (i : Int) < 128 := by omega
      have e0 : (0 : Int) ≤ (i : Int) := by omega
      obtain ⟨q, hq⟩ : ∃ q, q = i / 8 := ⟨_, rfl⟩
      have em : (i : Int) / 8 = (q : Int) := by omega
      have hq1 : (q : Int) < 80 := by omega
      have hq2 : q < 80 := by omega
      have hin : (i : Int) < (n : Int) := by omega
      obtain ⟨x, hx⟩ : ∃ x, x = l.getD q 0 := ⟨_, rfl⟩
      obtain ⟨b, hb⟩ : ∃ b, b = bs.getD i 0 := ⟨_, rfl⟩
      obtain ⟨y, hy⟩ : ∃ y, y = UInt64.ofNat (x.toNat * 256 % 18446744073709551616 ||| b.toNat) := ⟨_, rfl⟩
      have SH : bits .or .u64 (IntKind.u64.wrap ((x.toNat : Int) * 256)) (b.toNat : Int) = (y.toNat : Int) := by rw [hy]; exact shl64 x b
      have hbm : IntKind.u64.wrap (b.toNat : Int) = (b.toNat : Int) := by have := b.toNat_lt; rw [wrapU]; omega
      have HC := hid (show ∀ X, St w [Blk g3 (w64 l) 113, Blk g2 (w64 (List.replicate 80 0)) 113] X → X.cell? ⟨g3, q, none⟩ = some (.int .u64 (x.toNat : Int)) ∧ X.cell? ⟨gB, oB + i, none⟩ = some (.int .u8 (b.toNat : Int)) from fun X hX => ⟨by rw [hx]; exact lblk_cell hX (by rw [HL.out]; exact hq2), by rw [hb]; exact HB.out X i hX.below hlt⟩)
      clear hx hb hy hq
      go_wp2_with fail
      refine wp_region_ord [14] [(0, 1), (1, 1), (2, 1), (3, 1), (4, 1), (5, 1), (6, 1), (7, 1), (8, 1), (9, 1), (10, 1), (11, 1), (12, 1), (13, 1), (14, 2)] (fun X => St w [Blk g3 (w64 l) 113, Blk g2 (w64 (List.replicate 80 0)) 113] X) (by kernel_rfl) (by kernel_rfl) (fun d _ c _ _ h => by cases d <;> exact h) (HS.out.turn (Below.drew (Below.refl _ _))) (fun X hXe hX => ?_)
      clear hXe HS
      repeat (apply wpOrd_class; ((· first | (rw [List.getElem?_toArray, List.getElem?_cons_zero]; done) | (simp only [List.getElem?_toArray, List.getElem?_cons_succ, List.getElem?_cons_zero]; exact rfl))); (· exact rfl); intro K hK; apply Exists.intro; refine And.intro (fun X' hX' => ?_) ?_; (· obtain ⟨hq1, hq2⟩ := HC.out _ hX'; clear hX'; go_simp; (try go_bits); first | done | exact rfl | exact ⟨rfl, rfl⟩); go_simp; refine hK _ _ ?_; clear hK K)
      obtain ⟨c3, _⟩ := HC.out X hX
      have f3 := frozen_of_row X g3 q _ _ hX.blk
      (apply wpOrd_comes; ((· first | (rw [List.getElem?_toArray, List.getElem?_cons_zero]; done) | (simp only [List.getElem?_toArray, List.getElem?_cons_succ, List.getElem?_cons_zero]; exact rfl))); intro N hN)
      go_wp2_with fail
      have H3 := hid (hX.setCell q (.int .u64 (y.toNat : Int)))
      rw [w64_set] at H3
      clear hX c3 f3
      refine hN _ _ (fun h => by cases h) ?_
      clear hN N
      refine wpOrd_done ?_
      go_wp2_with fail
      go_roundw
      case rel => exact ⟨i + 1, l.set q y, by omega, by go_num, hid (by rw [List.length_set]; exact HL.out), H3⟩
      case measure => (simp [intOf] <;> omega)
    · have e1 : ¬ (i : Int) < 128 := by omega
      obtain rfl : i = 128 := by omega
      go_wp2_with fail
      go_loopw [5, 6, 7] (fun v _ _ X => ∃ (k : Nat) (l : List UInt64), 16 ≤ k ∧ k ≤ 80 ∧ v = .int .i64 k ∧ Hid (l.length = 80) ∧ Hid (St w [Blk g3 (w64 l) 113, Blk g2 (w64 (List.replicate 80 0)) 113] X)) (fun v _ _ _ => 80 - (intOf v).toNat)
      case atStart => exact ⟨16, l, Nat.le_refl _, by omega, rfl, HL, HS⟩
      case round =>
        clear HS HL
        obtain ⟨k, l, hk16, hk80, rfl, HL, HS⟩ := hrel
        by_cases hlt : k < 80
        · have e1 : (k : Int) < 80 := by omega
          have e0 : (0 : Int) ≤ (k : Int) := by omega
          obtain ⟨p0, hp0⟩ : ∃ p, p = k - 16 := ⟨_, rfl⟩
          obtain ⟨p1, hp1⟩ : ∃ p, p = k - 15 := ⟨_, rfl⟩
          obtain ⟨p2, hp2⟩ : ∃ p, p = k - 7 := ⟨_, rfl⟩
          obtain ⟨p3, hp3⟩ : ∃ p, p = k - 2 := ⟨_, rfl⟩
          have em0 : (k : Int) - 16 = (p0 : Int) := by omega
          have em1 : (k : Int) - 15 = (p1 : Int) := by omega
          have em2 : (k : Int) - 7 = (p2 : Int) := by omega
          have em3 : (k : Int) - 2 = (p3 : Int) := by omega
          have hl0 : (p0 : Int) < 80 := by omega
          have hl1 : (p1 : Int) < 80 := by omega
          have hl2 : (p2 : Int) < 80 := by omega
          have hl3 : (p3 : Int) < 80 := by omega
          obtain ⟨x0, hx0⟩ : ∃ x, x = l.getD p0 0 := ⟨_, rfl⟩
          obtain ⟨x1, hx1⟩ : ∃ x, x = l.getD p1 0 := ⟨_, rfl⟩
          obtain ⟨x2, hx2⟩ : ∃ x, x = l.getD p2 0 := ⟨_, rfl⟩
          obtain ⟨x3, hx3⟩ : ∃ x, x = l.getD p3 0 := ⟨_, rfl⟩
          have HR1 := hid (fun X => turn64_any x1 (n := 1) (by decide) (ni := 1) rfl X)
          have HR2 := hid (fun X => turn64_any x1 (n := 8) (by decide) (ni := 8) rfl X)
          have HR3 := hid (fun X => turn64_any x3 (n := 19) (by decide) (ni := 19) rfl X)
          have HR4 := hid (fun X => turn64_any x3 (n := 61) (by decide) (ni := 61) rfl X)
          generalize rotr64 x1 1 = r1 at HR1
          generalize rotr64 x1 8 = r2 at HR2
          generalize rotr64 x3 19 = r3 at HR3
          generalize rotr64 x3 61 = r4 at HR4
          have S1 := (show (x1.toNat : Int) / 128 = ((UInt64.ofNat (x1.toNat / 128)).toNat : Int) from shr64 x1 128)
          have S3 := (show (x3.toNat : Int) / 64 = ((UInt64.ofNat (x3.toNat / 64)).toNat : Int) from shr64 x3 64)
          have X1 := xor64 r1 r2
          have X3 := xor64 r3 r4
          generalize UInt64.ofNat (x1.toNat / 128) = s1 at S1
          generalize UInt64.ofNat (x3.toNat / 64) = s3 at S3
          generalize (r1 ^^^ r2) = a1 at X1
          generalize (r3 ^^^ r4) = a3 at X3
          have X2 := xor64 a1 s1
          have X4 := xor64 a3 s3
          generalize (a1 ^^^ s1) = a2 at X2
          generalize (a3 ^^^ s3) = a4 at X4
          have A1 := add64 x0 a2
          generalize (x0 + a2) = t1 at A1
          have A2 := add64 t1 x2
          generalize (t1 + x2) = t2 at A2
          have A3 := add64 t2 a4
          generalize (t2 + a4) = t3 at A3
          have HC := hid (show ∀ X, St w [Blk g3 (w64 l) 113, Blk g2 (w64 (List.replicate 80 0)) 113] X → X.cell? ⟨g3, p0, none⟩ = some (.int .u64 (x0.toNat : Int)) ∧ X.cell? ⟨g3, p1, none⟩ = some (.int .u64 (x1.toNat : Int)) ∧ X.cell? ⟨g3, p2, none⟩ = some (.int .u64 (x2.toNat : Int)) ∧ X.cell? ⟨g3, p3, none⟩ = some (.int .u64 (x3.toNat : Int)) from fun X hX =>
            ⟨by rw [hx0]; exact lblk_cell hX (by rw [HL.out]; omega), by rw [hx1]; exact lblk_cell hX (by rw [HL.out]; omega), by rw [hx2]; exact lblk_cell hX (by rw [HL.out]; omega), by rw [hx3]; exact lblk_cell hX (by rw [HL.out]; omega)⟩)
          clear hx0 hx1 hx2 hx3 hp0 hp1 hp2 hp3
          go_wp2_with fail
          refine wp_region_ord [] [(0, 1), (1, 1), (2, 1), (3, 1), (4, 1), (5, 1), (6, 1), (7, 1), (8, 1), (9, 1)] (fun X => St w [Blk g3 (w64 l) 113, Blk g2 (w64 (List.replicate 80 0)) 113] X) (by kernel_rfl) (by kernel_rfl) (fun d _ c _ _ h => by cases d <;> exact h) (HS.out.turn (Below.drew (Below.refl _ _))) (fun X hXe hX => ?_)
          clear hXe HS
          repeat (apply wpOrd_class; ((· first | (rw [List.getElem?_toArray, List.getElem?_cons_zero]; done) | (simp only [List.getElem?_toArray, List.getElem?_cons_succ, List.getElem?_cons_zero]; exact rfl))); (· exact rfl); intro K hK; apply Exists.intro; refine And.intro (fun X' hX' => ?_) ?_; (· obtain ⟨hq1, hq2, hq3, hq4⟩ := HC.out _ hX'; clear hX'; go_simp; (try go_bits); first | done | exact rfl | exact ⟨rfl, rfl⟩); go_simp; refine hK _ _ ?_; clear hK K)
          refine wpOrd_done ?_
          have HX := hid hX
          clear hX
          go_wp2_with fail
          refine wp_region_ord [29] [(0, 1), (1, 1), (2, 1), (3, 1), (4, 1), (5, 1), (7, 1), (10, 1), (11, 1), (14, 1), (15, 1), (16, 1), (17, 1), (19, 1), (21, 1), (24, 1), (25, 1), (6, 2), (8, 2), (9, 1), (12, 1), (13, 1), (18, 1), (20, 2), (22, 2), (23, 1), (26, 1), (27, 1), (28, 1), (29, 2)] (fun X => St w [Blk g3 (w64 l) 113, Blk g2 (w64 (List.replicate 80 0)) 113] X) (by kernel_rfl) (by kernel_rfl) (fun d _ c _ _ h => by cases d <;> exact h) (HX.out.turn (Below.drew (Below.refl _ _))) (fun X hXe hX => ?_)
          clear hXe HX
          repeat (apply wpOrd_class; ((· first | (rw [List.getElem?_toArray, List.getElem?_cons_zero]; done) | (simp only [List.getElem?_toArray, List.getElem?_cons_succ, List.getElem?_cons_zero]; exact rfl))); (· exact rfl); intro K hK; apply Exists.intro; refine And.intro (fun X' hX' => ?_) ?_; (· obtain ⟨hq1, hq2, hq3, hq4⟩ := HC.out _ hX'; clear hX'; go_simp; (try go_bits); first | done | exact rfl | exact ⟨rfl, rfl⟩); go_simp; refine hK _ _ ?_; clear hK K)
          (apply wpOrd_comes; ((· first | (rw [List.getElem?_toArray, List.getElem?_cons_zero]; done) | (simp only [List.getElem?_toArray, List.getElem?_cons_succ, List.getElem?_cons_zero]; exact rfl))); intro N hN)
          go_wp2_with (go_at_call 63; (with_reducible refine (HR1.out _).mono ?_); rintro v X2 ⟨rfl, rfl⟩)
          refine hN _ _ (fun _ => hX) ?_
          clear hN N
          (apply wpOrd_comes; ((· first | (rw [List.getElem?_toArray, List.getElem?_cons_zero]; done) | (simp only [List.getElem?_toArray, List.getElem?_cons_succ, List.getElem?_cons_zero]; exact rfl))); intro N hN)
          go_wp2_with (go_at_call 63; (with_reducible refine (HR2.out _).mono ?_); rintro v X2 ⟨rfl, rfl⟩)
          refine hN _ _ (fun _ => hX) ?_
          clear hN N
          repeat (apply wpOrd_class; ((· first | (rw [List.getElem?_toArray, List.getElem?_cons_zero]; done) | (simp only [List.getElem?_toArray, List.getElem?_cons_succ, List.getElem?_cons_zero]; exact rfl))); (· exact rfl); intro K hK; apply Exists.intro; refine And.intro (fun X' hX' => ?_) ?_; (· obtain ⟨hq1, hq2, hq3, hq4⟩ := HC.out _ hX'; clear hX'; go_simp; (try go_bits); first | done | exact rfl | exact ⟨rfl, rfl⟩); go_simp; refine hK _ _ ?_; clear hK K)
          (apply wpOrd_comes; ((· first | (rw [List.getElem?_toArray, List.getElem?_cons_zero]; done) | (simp only [List.getElem?_toArray, List.getElem?_cons_succ, List.getElem?_cons_zero]; exact rfl))); intro N hN)
          go_wp2_with (go_at_call 63; (with_reducible refine (HR3.out _).mono ?_); rintro v X2 ⟨rfl, rfl⟩)
          refine hN _ _ (fun _ => hX) ?_
          clear hN N
          (apply wpOrd_comes; ((· first | (rw [List.getElem?_toArray, List.getElem?_cons_zero]; done) | (simp only [List.getElem?_toArray, List.getElem?_cons_succ, List.getElem?_cons_zero]; exact rfl))); intro N hN)
          go_wp2_with (go_at_call 63; (with_reducible refine (HR4.out _).mono ?_); rintro v X2 ⟨rfl, rfl⟩)
          refine hN _ _ (fun _ => hX) ?_
          clear hN N
          repeat (apply wpOrd_class; ((· first | (rw [List.getElem?_toArray, List.getElem?_cons_zero]; done) | (simp only [List.getElem?_toArray, List.getElem?_cons_succ, List.getElem?_cons_zero]; exact rfl))); (· exact rfl); intro K hK; apply Exists.intro; refine And.intro (fun X' hX' => ?_) ?_; (· obtain ⟨hq1, hq2, hq3, hq4⟩ := HC.out _ hX'; clear hX'; go_simp; (try go_bits); first | done | exact rfl | exact ⟨rfl, rfl⟩); go_simp; refine hK _ _ ?_; clear hK K)
          have c3 := lblk_cell hX (i := k) (by rw [HL.out]; omega)
          have f3 := frozen_of_row X g3 k _ _ hX.blk
          (apply wpOrd_comes; ((· first | (rw [List.getElem?_toArray, List.getElem?_cons_zero]; done) | (simp only [List.getElem?_toArray, List.getElem?_cons_succ, List.getElem?_cons_zero]; exact rfl))); intro N hN)
          go_wp2_with fail
          have H3 := hid (hX.setCell k (.int .u64 (t3.toNat : Int)))
          rw [w64_set] at H3
          clear hX c3 f3
          refine hN _ _ (fun h => by cases h) ?_
          clear hN N
          refine wpOrd_done ?_
          go_wp2_with fail
          go_roundw
          case rel => exact ⟨k + 1, l.set k t3, by omega, by omega, by go_num, hid (by rw [List.length_set]; exact HL.out), H3⟩
          case measure => (simp [intOf] <;> omega)
        · have e1 : ¬ (k : Int) < 80 := by omega
          obtain rfl : k = 80 := by omega
          have HZ := hid ((w64_size l).trans HL.out)
          have HZ0 := hid (show (w64 (List.replicate 80 0)).size = 80 by rw [w64_size, List.length_replicate])
          have LB : (loadK 113 (.pointer (some ⟨g3, 0, none⟩))).run Tryd.prog wr = .ok (.value (.agg (w64 l))) wr := run_loadK_box HS.out.blk Tryd.underlying113 rfl size80w HZ.out
          go_wp2_with (refine wpList_store_box 113 _ _ rfl g2 rfl rfl (w64 l) rfl 80 size80w HZ.out (w64_one _) 113 _ HS.out.at2.blk HZ0.out ?_; intro W5 hB5 hT5 hs5; have H5 := hid (HS.out.at2.put hB5 hT5))
          exact bodyPost_ret (results_cell rfl _ _ _ g2 113 (w64 _) (0, 0) rfl hB5 Tryd.underlying113 (by rw [HZ.out]; exact size80w)) rfl ⟨⟨l, HL.out, rfl⟩, H5.out.below⟩
end Go.Proofs.YtnakbdgoaepehaaDoor
/- A block worked into the words of 64 bits. -/
namespace Go.Cu
open Go Go.RowKit
/-- The program's two tables of this sum. -/
def Glob5 (W : World) : Prop := ∃ l0 l1 t0 f0 t1 f1, List.length l0 = 8 ∧ List.length l1 = 80 ∧ W.heap[0]? = some (.cells (w64 l0) t0 f0) ∧ W.heap[2]? = some (.cells (w64 l1) t1 f1)
theorem Glob5.below {W X : World} {n : Nat} (h : Glob5 W) (hb : Below n W X) (hn : 2 + 1 ≤ n) : Glob5 X := by
  obtain ⟨l0, l1, t0, f0, t1, f1, h8, h80, h0, h1⟩ := h
  exact ⟨l0, l1, t0, f0, t1, f1, h8, h80, (hb.block 0 (by omega)).trans h0, (hb.block 2 (by omega)).trans h1⟩
theorem Glob5.two {W : World} (h : Glob5 W) : 2 + 1 ≤ W.heap.size := by
  obtain ⟨_, _, _, _, _, _, _, _, _, h1⟩ := h
  have := heap_lt h1
  omega
theorem list8' {l : List UInt64} (h : l.length = 8) : l = [l.getD 0 0, l.getD 1 0, l.getD 2 0, l.getD 3 0, l.getD 4 0, l.getD 5 0, l.getD 6 0, l.getD 7 0] := by
  match l, h with
  | [a, b, c, d, e, f, g, i], _ => rfl
end Go.Cu
namespace Go.Proofs.YtnakbdgoaepehaaDoor
open Go.RowKit Go.Cu
set_option maxRecDepth 20000 in
theorem zero8l (W : World) : (zeroValue 91).run Tryd.prog W = .ok (.agg (w64 (List.replicate 8 0))) W := by kernel_rfl
theorem size8l : (Tryd.prog.info? 91).map (·.size) = some 8 := by kernel_rfl
@[go_sem ↓] theorem ldktW8L (a : Act) (dst : Option Tmp) (x : Operand) (ty : TypeId) (pos : String) (after : Array Edge) (guard : Option (Nat × Bool)) :
      execOp a.eval { dst, op := .load 91 x, type := ty, pos, after, guard } = loadK 91 (a.eval x) := rfl
@[go_sem ↓] theorem bdktW8L (a : Act) (dst : Option Tmp) (ps : Array (Nat × Operand)) (ty : TypeId) (pos : String) (after : Array Edge) (guard : Option (Nat × Bool)) :
    execOp a.eval { dst, op := .build 91 ps, type := ty, pos, after, guard } = buildK 91 (ps.map fun (i, x) => (i, a.eval x)) := rfl
theorem build8l (a b c d e f g i : UInt64) (W : World) : (Instr.build 91 #[(0, .int .u64 a.toNat), (1, .int .u64 b.toNat), (2, .int .u64 c.toNat), (3, .int .u64 d.toNat), (4, .int .u64 e.toNat), (5, .int .u64 f.toNat), (6, .int .u64 g.toNat), (7, .int .u64 i.toNat)]).run Tryd.prog W = .ok (.agg (w64 [a, b, c, d, e, f, g, i])) W := by kernel_rfl
set_option maxRecDepth 20000 in
set_option maxHeartbeats 8000000 in
theorem press5_ok {h : List UInt64} {A : Option Addr} {n c : Nat} {bs : List UInt8} {w : World} (hh : h.length = 8) (hG : Glob5 w) (hb : BytesIn w A bs) (hl : 128 ≤ bs.length) (hn : bs.length = n) :
    Calls Tryd.prog 42 #[.agg (w64 h), .slice A n c] w fun r w' => (∃ h', h'.length = 8 ∧ r = .returned (.agg (w64 h'))) ∧ Below w.heap.size w w' := by
  obtain ⟨rl, hrl, HG⟩ : ∃ rl : List UInt64, rl.length = 80 ∧ Hid (∀ X, Below w.heap.size w X → ∀ i, i < 80 → X.cell? ⟨2, i, none⟩ = some (.int .u64 ((rl.getD i 0).toNat : Int))) := by
    have h2 := hG.two
    obtain ⟨l0, l1, t0, f0, t1, f1, h8, h80, h0, h1⟩ := hG
    refine ⟨l1, h80, hid fun X hX i hi => ?_⟩
    exact (cell_of_row X 2 i _ _ _ ((hX.block 2 (by omega)).trans h1)).trans (w64_get _ (by rw [h80]; exact hi))
  have HSP := hid (fun X (hX : Below w.heap.size w X) => spread5_ok (w := X) (c := c) (hb.below hX) hl hn)
  have HH8 := hid ((w64_size h).trans hh)
  have HHL := hid hh
  have HZ80 := hid (show (w64 (List.replicate 80 0)).size = 80 by rw [w64_size, List.length_replicate])
  have HZ8 := hid (show (w64 (List.replicate 8 0)).size = 8 by rw [w64_size, List.length_replicate])
  clear hG hb hl hn hh hrl
  have tok : True := trivial
  go_enter Tryd.func42, Tryd.ntmps42
  go_wp2_with (first | (refine wpList_box rfl 91 _ rfl (.agg (w64 h)) rfl ?_; intro gh W1 h1 hl1 hg1 hW1; have H1 := hid ((St.start w).newBlk hW1 hg1 h1); clear h1 hl1 hg1 hW1) | (have _t := tok; refine wpList_alloc 91 rfl rfl (.agg (w64 (List.replicate 8 0))) zero8l ?_; intro gr W2 h1 hl1 hg1 hW1; have H2 := hid (H1.out.newBlk hW1 hg1 h1); clear h1 hl1 hg1 hW1 tok) | (go_at_call 62; (with_reducible refine (HSP.out _ H2.out.below).mono ?_); rintro r W3 ⟨⟨ws, hwl, rfl⟩, hb3⟩; have H3 := hid (H2.out.turn hb3); have HWL := hid hwl; have HW8 := hid ((w64_size ws).trans hwl); clear hb3 hwl) | (refine wpList_alloc 113 rfl rfl (.agg (w64 (List.replicate 80 0))) zero80w ?_; intro gw W4 h1 hl1 hg1 hW1; have H4 := hid (H3.out.newBlk hW1 hg1 h1); clear h1 hl1 hg1 hW1) | (refine wpList_store_box 113 _ _ rfl gw rfl rfl (w64 ws) rfl 80 size80w HW8.out (w64_one _) 113 _ H4.out.blk HZ80.out ?_; intro W5 hB hT hs; have H5 := hid (H4.out.put hB hT); have LH : (loadK 91 (.pointer (some ⟨gh, 0, none⟩))).run Tryd.prog W5 = .ok (.value (.agg (w64 h))) W5 := run_loadK_box H5.out.at3.blk Tryd.underlying91 rfl size8l HH8.out; clear hB hT hs) | (refine wpList_alloc 91 rfl rfl (.agg (w64 (List.replicate 8 0))) zero8l ?_; intro gv W6 h1 hl1 hg1 hW1; have H6 := hid (H5.out.newBlk hW1 hg1 h1); clear h1 hl1 hg1 hW1 LH) | (refine wpList_store_box 91 _ _ rfl gv rfl rfl (w64 h) rfl 8 size8l HH8.out (w64_one _) 91 _ H6.out.blk HZ8.out ?_; intro W7 hB hT hs; have H7 := hid (H6.out.put hB hT); clear hB hT hs))
  go_loopw [7, 8, 9, 14] (fun _ _ _ k X => ∃ (i : Nat) (V : List UInt64), i ≤ 80 ∧ k = .int .i64 i ∧ Hid (V.length = 8) ∧ Hid (St w [Blk gv (w64 V) 91, Blk gw (w64 ws) 113, Blk gr (w64 (List.replicate 8 0)) 91, Blk gh (w64 h) 91] X)) (fun _ _ _ k _ => 80 - (intOf k).toNat)
  case atStart => exact ⟨0, h, Nat.zero_le _, rfl, HHL, H7⟩
  case round =>
    clear H1 H2 H3 H4 H5 H6 H7
    obtain ⟨i, V, hi, rfl, HV8, HS⟩ := hrel
    by_cases hlt : i < 80
    · have e1 : (i : Int) < 80 := by omega
      have e0 : (0 : Int) ≤ (i : Int) := by omega
      have hV8 := HV8.out
      obtain ⟨v0, hv0⟩ : ∃ x, x = V.getD 0 0 := ⟨_, rfl⟩
      obtain ⟨v1, hv1⟩ : ∃ x, x = V.getD 1 0 := ⟨_, rfl⟩
      obtain ⟨v2, hv2⟩ : ∃ x, x = V.getD 2 0 := ⟨_, rfl⟩
      obtain ⟨v3, hv3⟩ : ∃ x, x = V.getD 3 0 := ⟨_, rfl⟩
      obtain ⟨v4, hv4⟩ : ∃ x, x = V.getD 4 0 := ⟨_, rfl⟩
      obtain ⟨v5, hv5⟩ : ∃ x, x = V.getD 5 0 := ⟨_, rfl⟩
      obtain ⟨v6, hv6⟩ : ∃ x, x = V.getD 6 0 := ⟨_, rfl⟩
      obtain ⟨v7, hv7⟩ : ∃ x, x = V.getD 7 0 := ⟨_, rfl⟩
      obtain ⟨k, hk⟩ : ∃ x, x = rl.getD i 0 := ⟨_, rfl⟩
      obtain ⟨x, hx⟩ : ∃ x, x = ws.getD i 0 := ⟨_, rfl⟩
      have HC := hid (show ∀ X, St w [Blk gv (w64 V) 91, Blk gw (w64 ws) 113, Blk gr (w64 (List.replicate 8 0)) 91, Blk gh (w64 h) 91] X → X.cell? ⟨gv, 4, none⟩ = some (.int .u64 (v4.toNat : Int)) ∧ X.cell? ⟨gv, 5, none⟩ = some (.int .u64 (v5.toNat : Int)) ∧ X.cell? ⟨gv, 6, none⟩ = some (.int .u64 (v6.toNat : Int)) ∧ X.cell? ⟨gv, 7, none⟩ = some (.int .u64 (v7.toNat : Int)) ∧ X.cell? ⟨2, i, none⟩ = some (.int .u64 (k.toNat : Int)) ∧ X.cell? ⟨gw, i, none⟩ = some (.int .u64 (x.toNat : Int)) from fun X hX =>
        ⟨by rw [hv4]; exact lblk_cell hX (by omega), by rw [hv5]; exact lblk_cell hX (by omega), by rw [hv6]; exact lblk_cell hX (by omega), by rw [hv7]; exact lblk_cell hX (by omega), by rw [hk]; exact HG.out X hX.below i hlt, by rw [hx]; exact lblk_cell hX.at2 (by rw [HWL.out]; exact hlt)⟩)
      have HC3 := hid (show ∀ X, St w [Blk gv (w64 V) 91, Blk gw (w64 ws) 113, Blk gr (w64 (List.replicate 8 0)) 91, Blk gh (w64 h) 91] X → X.cell? ⟨gv, 0, none⟩ = some (.int .u64 (v0.toNat : Int)) ∧ X.cell? ⟨gv, 1, none⟩ = some (.int .u64 (v1.toNat : Int)) ∧ X.cell? ⟨gv, 2, none⟩ = some (.int .u64 (v2.toNat : Int)) from fun X hX =>
        ⟨by rw [hv0]; exact lblk_cell hX (by omega), by rw [hv1]; exact lblk_cell hX (by omega), by rw [hv2]; exact lblk_cell hX (by omega)⟩)
      have HC4 := hid (show ∀ X, St w [Blk gv (w64 V) 91, Blk gw (w64 ws) 113, Blk gr (w64 (List.replicate 8 0)) 91, Blk gh (w64 h) 91] X → X.cell? ⟨gv, 3, none⟩ = some (.int .u64 (v3.toNat : Int)) from fun X hX => by rw [hv3]; exact lblk_cell hX (by omega))
      clear hv0 hv1 hv2 hv3 hv4 hv5 hv6 hv7 hk hx
      have HRa := hid (fun X => turn64_any v4 (n := 14) (by decide) (ni := 14) rfl X)
      generalize rotr64 v4 14 = ra at HRa
      have HRb := hid (fun X => turn64_any v4 (n := 18) (by decide) (ni := 18) rfl X)
      generalize rotr64 v4 18 = rb at HRb
      have HRc := hid (fun X => turn64_any v4 (n := 41) (by decide) (ni := 41) rfl X)
      generalize rotr64 v4 41 = rc at HRc
      have E1 := xor64 ra rb
      generalize (ra ^^^ rb) = a1 at E1
      have E2 := xor64 a1 rc
      generalize (a1 ^^^ rc) = a2 at E2
      have E3 := add64 v7 a2
      generalize (v7 + a2) = a3 at E3
      have E4 := and64 v4 v5
      generalize (v4 &&& v5) = a4 at E4
      have E5 : bits .xor .u64 (if IntKind.u64.signed = true then -1 else IntKind.u64.max) (v4.toNat : Int) = ((0xffffffffffffffff ^^^ v4).toNat : Int) := xor64 0xffffffffffffffff v4
      generalize (0xffffffffffffffff ^^^ v4) = a5 at E5
      have E6 := and64 a5 v6
      generalize (a5 &&& v6) = a6 at E6
      have E7 := xor64 a4 a6
      generalize (a4 ^^^ a6) = a7 at E7
      have E8 := add64 a3 a7
      generalize (a3 + a7) = a8 at E8
      have E9 := add64 a8 k
      generalize (a8 + k) = a9 at E9
      have E10 := add64 a9 x
      generalize (a9 + x) = t at E10
      have HRd := hid (fun X => turn64_any v0 (n := 28) (by decide) (ni := 28) rfl X)
      generalize rotr64 v0 28 = rd at HRd
      have HRe := hid (fun X => turn64_any v0 (n := 34) (by decide) (ni := 34) rfl X)
      generalize rotr64 v0 34 = re at HRe
      have HRf := hid (fun X => turn64_any v0 (n := 39) (by decide) (ni := 39) rfl X)
      generalize rotr64 v0 39 = rf at HRf
      have D1 := xor64 rd re
      generalize (rd ^^^ re) = d1 at D1
      have D2 := xor64 d1 rf
      generalize (d1 ^^^ rf) = d2 at D2
      have D3 := and64 v0 v1
      generalize (v0 &&& v1) = d3 at D3
      have D4 := and64 v0 v2
      generalize (v0 &&& v2) = d4 at D4
      have D5 := xor64 d3 d4
      generalize (d3 ^^^ d4) = d5 at D5
      have D6 := and64 v1 v2
      generalize (v1 &&& v2) = d6 at D6
      have D7 := xor64 d5 d6
      generalize (d5 ^^^ d6) = d7 at D7
      have D8 := add64 d2 d7
      generalize (d2 + d7) = u at D8
      have D9 := add64 t u
      generalize (t + u) = tu at D9
      have D10 := add64 v3 t
      generalize (v3 + t) = v3t at D10
      have BB := fun W => run_buildK (build8l tu v0 v1 v2 v3t v4 v5 v6 W)
      have HVS := hid ((w64_size V).trans hV8)
      have HN8 := hid (show (w64 [tu, v0, v1, v2, v3t, v4, v5, v6]).size = 8 from rfl)
      clear hV8
      go_wp2_with fail
      refine wp_region_ord [] [(0, 1), (1, 1), (2, 1), (3, 1), (5, 1), (6, 1), (9, 1), (10, 1), (14, 1), (15, 1), (16, 1), (17, 1), (18, 1), (19, 1), (20, 1), (21, 1), (22, 1), (23, 1), (24, 1), (25, 1), (27, 1), (28, 1), (29, 1), (31, 1), (32, 1), (33, 1), (4, 2), (7, 2), (8, 1), (11, 2), (12, 1), (13, 1), (26, 1), (30, 1), (34, 1), (35, 1)] (fun X => St w [Blk gv (w64 V) 91, Blk gw (w64 ws) 113, Blk gr (w64 (List.replicate 8 0)) 91, Blk gh (w64 h) 91] X) (by kernel_rfl) (by kernel_rfl) (fun d _ c _ _ h => by cases d <;> exact h) (HS.out.turn (Below.drew (Below.refl _ _))) (fun X hXe hX => ?_)
      clear hXe HS
      repeat (apply wpOrd_class; ((· first | (rw [List.getElem?_toArray, List.getElem?_cons_zero]; done) | (simp only [List.getElem?_toArray, List.getElem?_cons_succ, List.getElem?_cons_zero]; exact rfl))); (· exact rfl); intro K hK; apply Exists.intro; refine And.intro (fun X' hX' => ?_) ?_; (· obtain ⟨hq1, hq2, hq3, hq4, hq5, hq6⟩ := HC.out _ hX'; clear hX'; go_simp; (try go_bits); first | done | exact rfl | exact ⟨rfl, rfl⟩); go_simp; refine hK _ _ ?_; clear hK K)
      (apply wpOrd_comes; ((· first | (rw [List.getElem?_toArray, List.getElem?_cons_zero]; done) | (simp only [List.getElem?_toArray, List.getElem?_cons_succ, List.getElem?_cons_zero]; exact rfl))); intro N hN)
      go_wp2_with (go_at_call 63; (with_reducible refine (HRa.out _).mono ?_); rintro v X2 ⟨rfl, rfl⟩)
      refine hN _ _ (fun _ => hX) ?_
      clear hN N
      (apply wpOrd_comes; ((· first | (rw [List.getElem?_toArray, List.getElem?_cons_zero]; done) | (simp only [List.getElem?_toArray, List.getElem?_cons_succ, List.getElem?_cons_zero]; exact rfl))); intro N hN)
      go_wp2_with (go_at_call 63; (with_reducible refine (HRb.out _).mono ?_); rintro v X2 ⟨rfl, rfl⟩)
      refine hN _ _ (fun _ => hX) ?_
      clear hN N
      repeat (apply wpOrd_class; ((· first | (rw [List.getElem?_toArray, List.getElem?_cons_zero]; done) | (simp only [List.getElem?_toArray, List.getElem?_cons_succ, List.getElem?_cons_zero]; exact rfl))); (· exact rfl); intro K hK; apply Exists.intro; refine And.intro (fun X' hX' => ?_) ?_; (· obtain ⟨hq1, hq2, hq3, hq4, hq5, hq6⟩ := HC.out _ hX'; clear hX'; go_simp; (try go_bits); first | done | exact rfl | exact ⟨rfl, rfl⟩); go_simp; refine hK _ _ ?_; clear hK K)
      (apply wpOrd_comes; ((· first | (rw [List.getElem?_toArray, List.getElem?_cons_zero]; done) | (simp only [List.getElem?_toArray, List.getElem?_cons_succ, List.getElem?_cons_zero]; exact rfl))); intro N hN)
      go_wp2_with (go_at_call 63; (with_reducible refine (HRc.out _).mono ?_); rintro v X2 ⟨rfl, rfl⟩)
      refine hN _ _ (fun _ => hX) ?_
      clear hN N
      repeat (apply wpOrd_class; ((· first | (rw [List.getElem?_toArray, List.getElem?_cons_zero]; done) | (simp only [List.getElem?_toArray, List.getElem?_cons_succ, List.getElem?_cons_zero]; exact rfl))); (· exact rfl); intro K hK; apply Exists.intro; refine And.intro (fun X' hX' => ?_) ?_; (· obtain ⟨hq1, hq2, hq3, hq4, hq5, hq6⟩ := HC.out _ hX'; clear hX'; go_simp; (try go_bits); first | done | exact rfl | exact ⟨rfl, rfl⟩); go_simp; refine hK _ _ ?_; clear hK K)
      refine wpOrd_done ?_
      have HX := hid hX
      clear hX
      go_wp2_with fail
      refine wp_region_ord [] [(0, 1), (1, 1), (3, 1), (4, 1), (7, 1), (8, 1), (11, 1), (12, 1), (13, 1), (14, 1), (15, 1), (16, 1), (17, 1), (18, 1), (19, 1), (20, 1), (21, 1), (22, 1), (23, 1), (24, 1), (25, 1), (26, 1), (27, 1), (2, 2), (5, 2), (6, 1), (9, 2), (10, 1), (28, 1), (29, 1)] (fun X => St w [Blk gv (w64 V) 91, Blk gw (w64 ws) 113, Blk gr (w64 (List.replicate 8 0)) 91, Blk gh (w64 h) 91] X) (by kernel_rfl) (by kernel_rfl) (fun d _ c _ _ h => by cases d <;> exact h) (HX.out.turn (Below.drew (Below.refl _ _))) (fun X hXe hX => ?_)
      clear hXe HX
      repeat (apply wpOrd_class; ((· first | (rw [List.getElem?_toArray, List.getElem?_cons_zero]; done) | (simp only [List.getElem?_toArray, List.getElem?_cons_succ, List.getElem?_cons_zero]; exact rfl))); (· exact rfl); intro K hK; apply Exists.intro; refine And.intro (fun X' hX' => ?_) ?_; (· obtain ⟨hq1, hq2, hq3⟩ := HC3.out _ hX'; clear hX'; go_simp; (try go_bits); first | done | exact rfl | exact ⟨rfl, rfl⟩); go_simp; refine hK _ _ ?_; clear hK K)
      (apply wpOrd_comes; ((· first | (rw [List.getElem?_toArray, List.getElem?_cons_zero]; done) | (simp only [List.getElem?_toArray, List.getElem?_cons_succ, List.getElem?_cons_zero]; exact rfl))); intro N hN)
      go_wp2_with (go_at_call 63; (with_reducible refine (HRd.out _).mono ?_); rintro v X2 ⟨rfl, rfl⟩)
      refine hN _ _ (fun _ => hX) ?_
      clear hN N
      (apply wpOrd_comes; ((· first | (rw [List.getElem?_toArray, List.getElem?_cons_zero]; done) | (simp only [List.getElem?_toArray, List.getElem?_cons_succ, List.getElem?_cons_zero]; exact rfl))); intro N hN)
      go_wp2_with (go_at_call 63; (with_reducible refine (HRe.out _).mono ?_); rintro v X2 ⟨rfl, rfl⟩)
      refine hN _ _ (fun _ => hX) ?_
      clear hN N
      repeat (apply wpOrd_class; ((· first | (rw [List.getElem?_toArray, List.getElem?_cons_zero]; done) | (simp only [List.getElem?_toArray, List.getElem?_cons_succ, List.getElem?_cons_zero]; exact rfl))); (· exact rfl); intro K hK; apply Exists.intro; refine And.intro (fun X' hX' => ?_) ?_; (· obtain ⟨hq1, hq2, hq3⟩ := HC3.out _ hX'; clear hX'; go_simp; (try go_bits); first | done | exact rfl | exact ⟨rfl, rfl⟩); go_simp; refine hK _ _ ?_; clear hK K)
      (apply wpOrd_comes; ((· first | (rw [List.getElem?_toArray, List.getElem?_cons_zero]; done) | (simp only [List.getElem?_toArray, List.getElem?_cons_succ, List.getElem?_cons_zero]; exact rfl))); intro N hN)
      go_wp2_with (go_at_call 63; (with_reducible refine (HRf.out _).mono ?_); rintro v X2 ⟨rfl, rfl⟩)
      refine hN _ _ (fun _ => hX) ?_
      clear hN N
      repeat (apply wpOrd_class; ((· first | (rw [List.getElem?_toArray, List.getElem?_cons_zero]; done) | (simp only [List.getElem?_toArray, List.getElem?_cons_succ, List.getElem?_cons_zero]; exact rfl))); (· exact rfl); intro K hK; apply Exists.intro; refine And.intro (fun X' hX' => ?_) ?_; (· obtain ⟨hq1, hq2, hq3⟩ := HC3.out _ hX'; clear hX'; go_simp; (try go_bits); first | done | exact rfl | exact ⟨rfl, rfl⟩); go_simp; refine hK _ _ ?_; clear hK K)
      refine wpOrd_done ?_
      have HX := hid hX
      clear hX
      obtain ⟨c4, c5, c6, c7, _, _⟩ := HC.out X HX.out
      obtain ⟨c0, c1, c2⟩ := HC3.out X HX.out
      have c3 := HC4.out X HX.out
      go_wp2_with (refine wpList_store_box 91 _ _ rfl gv rfl rfl (w64 [tu, v0, v1, v2, v3t, v4, v5, v6]) rfl 8 size8l HN8.out (w64_one _) 91 _ HX.out.blk HVS.out ?_; intro W5 hB hT hs; have H5 := hid (HX.out.put hB hT); clear hB hT hs)
      go_roundw
      case rel => exact ⟨i + 1, _, by omega, by go_num, hid rfl, H5⟩
      case measure => (simp [intOf] <;> omega)
    · have e1 : ¬ (i : Int) < 80 := by omega
      obtain rfl : i = 80 := by omega
      have H9 := hid HS.out.at4
      clear HS
      go_wp2_with fail
      go_loopw [10, 102] (fun _ v X => ∃ (i : Nat) (h2 : List UInt64), i ≤ 8 ∧ v = .int .i64 i ∧ Hid (h2.length = 8) ∧ Hid (St w [Blk gh (w64 h2) 91, Blk gv (w64 V) 91, Blk gw (w64 ws) 113, Blk gr (w64 (List.replicate 8 0)) 91] X)) (fun _ v _ => 8 - (intOf v).toNat)
      case atStart => exact ⟨0, h, Nat.zero_le _, rfl, HHL, H9⟩
      case round =>
        clear H9
        obtain ⟨i, h2, hi, rfl, HL2, HS⟩ := hrel
        by_cases hlt : i < 8
        · have e1 : (i : Int) < 8 := by omega
          have e0 : (0 : Int) ≤ (i : Int) := by omega
          obtain ⟨x, hx⟩ : ∃ x, x = h2.getD i 0 := ⟨_, rfl⟩
          obtain ⟨y, hy⟩ : ∃ x, x = V.getD i 0 := ⟨_, rfl⟩
          have E1 := add64 x y
          generalize (x + y) = z at E1
          have HC := hid (show ∀ X, St w [Blk gh (w64 h2) 91, Blk gv (w64 V) 91, Blk gw (w64 ws) 113, Blk gr (w64 (List.replicate 8 0)) 91] X → X.cell? ⟨gh, i, none⟩ = some (.int .u64 (x.toNat : Int)) ∧ X.cell? ⟨gv, i, none⟩ = some (.int .u64 (y.toNat : Int)) from fun X hX => ⟨by rw [hx]; exact lblk_cell hX (by rw [HL2.out]; exact hlt), by rw [hy]; exact lblk_cell hX.at2 (by rw [HV8.out]; exact hlt)⟩)
          clear hx hy
          go_wp2_with fail
          refine wp_region_ord [8] [(0, 1), (1, 1), (2, 1), (3, 1), (4, 1), (5, 1), (6, 1), (7, 1), (8, 2)] (fun X => St w [Blk gh (w64 h2) 91, Blk gv (w64 V) 91, Blk gw (w64 ws) 113, Blk gr (w64 (List.replicate 8 0)) 91] X) (by kernel_rfl) (by kernel_rfl) (fun d _ c _ _ h => by cases d <;> exact h) (HS.out.turn (Below.drew (Below.refl _ _))) (fun X hXe hX => ?_)
          clear hXe HS
          repeat (apply wpOrd_class; ((· first | (rw [List.getElem?_toArray, List.getElem?_cons_zero]; done) | (simp only [List.getElem?_toArray, List.getElem?_cons_succ, List.getElem?_cons_zero]; exact rfl))); (· exact rfl); intro K hK; apply Exists.intro; refine And.intro (fun X' hX' => ?_) ?_; (· obtain ⟨hq1, hq2⟩ := HC.out _ hX'; clear hX'; go_simp; (try go_bits); first | done | exact rfl | exact ⟨rfl, rfl⟩); go_simp; refine hK _ _ ?_; clear hK K)
          obtain ⟨c3, _⟩ := HC.out X hX
          have f3 := frozen_of_row X gh i _ _ hX.blk
          (apply wpOrd_comes; ((· first | (rw [List.getElem?_toArray, List.getElem?_cons_zero]; done) | (simp only [List.getElem?_toArray, List.getElem?_cons_succ, List.getElem?_cons_zero]; exact rfl))); intro N hN)
          go_wp2_with fail
          have H3 := hid (hX.setCell i (.int .u64 (z.toNat : Int)))
          rw [w64_set] at H3
          clear hX c3 f3
          refine hN _ _ (fun h => by cases h) ?_
          clear hN N
          refine wpOrd_done ?_
          go_wp2_with fail
          go_roundw
          case rel => exact ⟨i + 1, h2.set i z, by omega, by go_num, hid (by rw [List.length_set]; exact HL2.out), H3⟩
          case measure => (simp [intOf] <;> omega)
        · have e1 : ¬ (i : Int) < 8 := by omega
          obtain rfl : i = 8 := by omega
          have HZ := hid ((w64_size h2).trans HL2.out)
          have LB : (loadK 91 (.pointer (some ⟨gh, 0, none⟩))).run Tryd.prog wr = .ok (.value (.agg (w64 h2))) wr := run_loadK_box HS.out.blk Tryd.underlying91 rfl size8l HZ.out
          go_wp2_with (refine wpList_store_box 91 _ _ rfl gr rfl rfl (w64 h2) rfl 8 size8l HZ.out (w64_one _) 91 _ HS.out.at4.blk HZ8.out ?_; intro W5 hB5 hT5 hs5; have H5 := hid (HS.out.at4.put hB5 hT5))
          exact bodyPost_ret (results_cell rfl _ _ _ gr 91 (w64 _) (0, 0) rfl hB5 Tryd.underlying91 (by rw [HZ.out]; exact size8l)) rfl ⟨⟨h2, HL2.out, rfl⟩, H5.out.below⟩
end Go.Proofs.YtnakbdgoaepehaaDoor
/- So many noughts appended to a row of bytes. -/
namespace Go.Cu
open Go Go.RowKit
section
variable {P : Program}
theorem zeroCells_u8 (m : Nat) : Builtin.zeroCells (Value.int .u8 0).cells m = (bvL (List.replicate m 0)).toArray := by
  apply Array.ext
  · simp [Builtin.zeroCells, bvL, Value.cells]
  · intro j h1 h2
    simp [Builtin.zeroCells, bvL, Value.cells, Nat.mod_one]
theorem run_append_zeros (w : World) (t tn ty e : TypeId) (i : TypeInfo) (kq kn : IntKind) (ht : P.underlying t = some (.slice e)) (htn : P.underlying tn = some (.int kn)) (hi : P.info? e = some i) (hz : i.zero = some (.int .u8 0)) (hsize : i.size = 1) (hby : i.bytes = 1)
    {g n c : Nat} {xs : List UInt8} (hown : w.ownsRow 0 e 1 (.slice (some ⟨g, 0, none⟩) n c) n (bvL xs)) (m : Nat) (h0 : 0 < m) (h63 : n + m ≤ 1000000) :
    ∃ v' w', (Builtin.append_ #[t, tn] ty #[.slice (some ⟨g, 0, none⟩) n c, .int kq m]).run P w = .ok v' w' ∧ w'.ownsRow 0 e 1 v' (n + m) (bvL (xs ++ List.replicate m 0)) ∧ Tch (· = g) w w' ∧ (v'.ownBlock = some g ∨ v'.ownBlock = some w.heap.size) := by
  have hk : m ≠ 0 := by omega
  have hw : IntKind.i64.wrap (m : Int) = m := by rw [IntKind.wrap_i64]; omega
  have hneg : ¬ ((m : Int) < 0) := by omega
  have h48i : ¬ (281474976710656 < (m : Int)) := by omega
  have hxl : (bvL xs).length = n := by have := hown.1; omega
  have hlen : (bvL (xs ++ List.replicate m 0)).length = (n + m) * 1 := by
    rw [bvL_app, List.length_append, hxl, bvL_len, List.length_replicate, Nat.mul_one]
  have hzl : (bvL (List.replicate m 0)).length = m := by rw [bvL_len, List.length_replicate]
  rcases hown.2 with ⟨hv, _⟩ | ⟨g', cap, cur, hv, hbg, hg, hnc, hcm, hcs, htake⟩
  · cases hv
  · cases hv
    rw [Nat.mul_one] at hcs htake
    by_cases hroom : n + m ≤ c
    · have hst := run_storeCells_at P g n e (bvL (List.replicate m 0)) 0 cur w hg (by rw [hzl]; omega) (bvL_one _)
      simp only [Nat.add_zero] at hst
      refine ⟨.slice (some ⟨g, 0, none⟩) (n + m) c, w.setRow g (cur.toList.take n ++ bvL (List.replicate m 0) ++ cur.toList.drop (n + (bvL (List.replicate m 0)).length)).toArray, ?_, ⟨hlen, .inr ⟨g, c, _, rfl, Nat.zero_le _, setRow_heap w g cur _ e _ hg, hroom, hcm, ?_, ?_⟩⟩, ⟨rfl, rfl, rfl, by simp, fun k _ hk => setRow_other w g k _ (fun e => hk e)⟩, .inl rfl⟩
      · simp [Builtin.append_, run_underlying ht, run_underlying htn, sizeOf, typeInfo, zeroValue, hi, hz, hsize, hby, asInt, asIntOf, hw, hneg, hk, h48i, hroom, Addr.add_lit, zeroCells_u8, hst]
      · simp only [List.size_toArray, List.length_append, List.length_take, List.length_drop, Array.length_toList, hzl]
        omega
      · rw [Nat.mul_one, htake, bvL_app, List.toList_toArray]
        have e1 : n + m = (bvL xs ++ bvL (List.replicate m 0)).length := by rw [List.length_append, hxl, hzl]
        rw [e1]
        exact List.take_left
    · have holds : ∀ j u, (bvL xs)[j]? = some u → w.drew.cell? ((⟨g, 0, none⟩ : Addr).add j) = some u := hown.cells (g := g) rfl
      have hf := run_firstCells_some (P := P) w.drew i.size n ⟨g, 0, none⟩ n c (bvL xs) (by rw [hxl, hsize, Nat.mul_one]) holds
      have hr := Lib.run_append_grow_zeros (P := P) w t tn ty e i (.int .u8 0) kq kn ht htn hi hz (some ⟨g, 0, none⟩) n c (bvL xs) hf m h0 (by omega) (by omega) (by omega) (by rw [hby]; omega) (by rw [hby]; exact growslice_fits (by omega) (by omega))
      have hge := grownCap_ge w (n + m) c e
      have hcm2 : grownCap w (n + m) c e ≤ maxLen := grownCap_le_maxLen w (n + m) c e (by unfold maxLen; omega)
      refine ⟨_, _, hr, ⟨hlen, .inr ⟨w.heap.size, _, _, rfl, Nat.zero_le _, heap_alloc_new w.drew _, hge, hcm2, ?_, ?_⟩⟩, ⟨rfl, rfl, rfl, by simp, fun k hk _ => heap_alloc_old w.drew _ hk⟩, .inr rfl⟩
      · simp only [Array.size_append, List.size_toArray, size_zeroCells, hxl]
        show n + m * 1 + (_ - (n + m)) * 1 = _
        omega
      · rw [zeroCells_u8, bvL_app]
        simp only [Array.toList_append, List.append_assoc]
        rw [← List.append_assoc, Nat.mul_one]
        have e1 : n + m = (bvL xs ++ bvL (List.replicate m 0)).length := by rw [List.length_append, hxl, hzl]
        conv => lhs; rw [e1]
        exact List.take_left
theorem wpList_append_zeros {ops : Array Oper} {rest : List Oper} {o : Oper} {a : Act} {Q : Exit → Act → World → Prop} {w : World} (s x : Operand) (t tn : TypeId)
    (ho : o.op = .call { callee := .builtin .append, args := #[s, x], argTypes := #[t, tn] }) {g n c : Nat} (hs : a.eval s = .slice (some ⟨g, 0, none⟩) n c) {kq kn : IntKind} {m : Nat} (hx : a.eval x = .int kq m) (hw : Region.wanted o (yielded ops a.tmps) = true)
    (e : TypeId) (i : TypeInfo) (ht : P.underlying t = some (.slice e)) (htn : P.underlying tn = some (.int kn)) (hi : P.info? e = some i) (hz : i.zero = some (.int .u8 0)) (hsize : i.size = 1) (hby : i.bytes = 1)
    {xs : List UInt8} (hown : w.ownsRow 0 e 1 (.slice (some ⟨g, 0, none⟩) n c) n (bvL xs)) (h0 : 0 < m) (h63 : n + m ≤ 1000000)
    (h : ∀ v' w', w'.ownsRow 0 e 1 v' (n + m) (bvL (xs ++ List.replicate m 0)) → Tch (· = g) w w' → (v'.ownBlock = some g ∨ v'.ownBlock = some w.heap.size) → wpList P ops Q rest (a.put o.dst v') w') : wpList P ops Q (o :: rest) a w := by
  refine wpList_wanted hw fun K hK => ?_
  obtain ⟨v', w', hrun, h2, h3, h5⟩ := run_append_zeros (P := P) w t tn o.type e i kq kn ht htn hi hz hsize hby hown m h0 h63
  unfold Oper.wp execOp
  simp only [ho, resolve, invoke, builtin, Sem.run_bind, Sem.run_pure, Result.andThen_ok, List.map_toArray, List.map_cons, List.map_nil, hs, hx, hrun]
  exact hK _ _ (h v' w' h2 h3 h5)
end
end Go.Cu
/- The sum of 64 bytes: that there is one. -/
namespace Go.Cu
open Go Go.RowKit
theorem run_index_w64 {P : Program} {t e : TypeId} {n : Nat} (ht : P.underlying t = some (.array n e)) (hu : P.underlying e = some (.int .u64)) (hz : (P.info? e).map (·.size) = some 1)
    (l : List UInt64) (hl : l.length = n) (i : Nat) (h : i < n) (w : World) : (Instr.index t (.agg (w64 l)) (.int .i64 i)).run P w = .ok (.int .u64 ((l.getD i 0).toNat : Int)) w := by
  have hin : ¬ (n ≤ i) := by omega
  have hg := w64_get l (i := i) (by omega)
  simp [Instr.index, asIntOf, run_underlying ht, hin, run_sizeOf hz, part, isAgg, run_underlying hu, hg]
theorem u8_ex (z : Int) : ∃ b : UInt8, z % 256 = (b.toNat : Int) := by
  refine ⟨UInt8.ofNat (z % 256).toNat, ?_⟩
  rw [UInt8.toNat_ofNat']
  omega
end Go.Cu
namespace Go.Proofs.YtnakbdgoaepehaaDoor
open Go.RowKit Go.Cu
set_option maxRecDepth 20000 in
theorem zero64b (W : World) : (zeroValue 55).run Tryd.prog W = .ok (.agg (bv (List.replicate 64 0))) W := by kernel_rfl
theorem size64b : (Tryd.prog.info? 55).map (·.size) = some 64 := by kernel_rfl
theorem sizeU64 : (Tryd.prog.info? 65).map (·.size) = some 1 := by kernel_rfl
@[go_sem ↓] theorem ldktSUM5 (a : Act) (dst : Option Tmp) (x : Operand) (ty : TypeId) (pos : String) (after : Array Edge) (guard : Option (Nat × Bool)) :
      execOp a.eval { dst, op := .load 55 x, type := ty, pos, after, guard } = loadK 55 (a.eval x) := rfl
section
variable {W0 W : World} {L : List Atm}
set_option maxRecDepth 20000 in
set_option maxHeartbeats 16000000 in
theorem sum5_st (h : St W0 L W) (hG : Glob5 W0) {A : Option Addr} {c : Nat} {ps : List (List UInt8)} (hp : PartsIn W0 L A ps) (hps : ps.length ≤ 1000) (hm : ps.flatten.length ≤ 10000) :
    Calls Tryd.prog 20 #[.slice A ps.length c] W fun x w' => (∃ l, l.length = 64 ∧ x = .returned (.agg (bv l))) ∧ St W0 L w' := by
  have HH := hid h
  have HP := hid hp
  have HG := hid (fun X (M : List Atm) (hX : St W0 M X) => hG.below hX.below hG.two)
  have HZ64 := hid (show (bv (List.replicate 64 0)).size = 64 by rw [bv_size, List.length_replicate])
  have HZ8 := hid (show (w64 (List.replicate 8 0)).size = 8 by rw [w64_size, List.length_replicate])
  obtain ⟨i5, hi, hiz, his, hib⟩ := info_parts info5
  have HI := hid (And.intro hi (And.intro hiz (And.intro his hib)))
  clear h hG hp hi hiz his hib
  go_enter Tryd.func20, Tryd.ntmps20
  go_wp2_with (refine wpList_alloc 55 rfl rfl (.agg (bv (List.replicate 64 0))) zero64b ?_; intro go W1 h1 hl1 hg1 hW1; have H1 := hid ((HH.out.newBlk hW1 hg1 h1).nilRow 5 1); clear h1 hl1 hg1 hW1)
  go_loopw [3, 5, 15] (fun v _ k X => ∃ (i n : Nat) (D : Option Addr) (d : Nat), i ≤ ps.length ∧ k = .int .i64 i ∧ v = .slice D n d ∧ n ≤ 10000 ∧ Hid (n = (ps.take i).flatten.length) ∧ Hid (St W0 (Row (.slice D n d) 5 1 n (bvL (ps.take i).flatten) :: Blk go (bv (List.replicate 64 0)) 55 :: L) X)) (fun _ _ k _ => ps.length - (intOf k).toNat)
  case atStart => exact ⟨0, 0, none, 0, Nat.zero_le _, rfl, rfl, Nat.zero_le _, hid rfl, H1⟩
  case round =>
    clear H1 HH
    obtain ⟨i, n, D, d, hi, rfl, rfl, hn, HN, HS⟩ := hrel
    have i0 : (0 : Int) ≤ (i : Int) := by omega
    by_cases hlt : i < ps.length
    · have e1 : (i : Int) < (ps.length : Int) := by omega
      obtain ⟨b, hb⟩ : ∃ b, ps[i]? = some b := ⟨_, List.getElem?_eq_getElem hlt⟩
      have HTF := hid (take_flat_step hb)
      have htl := take_flat_le ps (i + 1)
      rw [← HTF.out, List.length_append, ← HN.out] at htl
      obtain ⟨ga, oa, B, cb, rfl, hc1, hc2, hX3⟩ := HP.out i b hb
      have cx := (hX3 _ HS.out.drop.drop).1
      have HX3 := hid (fun X hX => (hX3 X hX).2)
      have hnb : n + b.length ≤ 10000 := by omega
      clear hb hX3
      go_wp2_with (refine wpList_append_bytes _ _ _ rfl (.slice D n d) rfl B cb b rfl rfl 5 i5 Tryd.underlying42 HI.out.1 HI.out.2.1 HI.out.2.2.1 HI.out.2.2.2 n _ HS.out.row (HX3.out _ HS.out.drop.drop) (by omega) ?_; intro v' X6 hO2 hT2 hfr; have H6 := hid (HS.out.grow hO2 hT2 hfr); clear hO2 hT2 hfr; rw [← bvL_app, HTF.out] at H6; obtain ⟨B2, d2, hv', _⟩ := row_slice H6.out; subst hv')
      go_roundw
      case rel => exact ⟨i + 1, n + b.length, B2, d2, by omega, by go_num, rfl, hnb, hid (by rw [← HTF.out, List.length_append, ← HN.out]), H6⟩
      case measure => (simp [intOf] <;> omega)
    · have e1 : ¬ (i : Int) < (ps.length : Int) := by omega
      obtain rfl : i = ps.length := by omega
      rw [List.take_length] at HS HN
      obtain ⟨fl, hfl⟩ : ∃ fl, fl = ps.flatten := ⟨_, rfl⟩
      rw [← hfl] at HS HN
      clear hfl hm
      go_wp2_with (first | (refine wpList_buildSlice1 _ rfl (.int .u8 128) (by simp [Act.eval]) rfl Tryd.underlying42 zero5s size5s (by decide) (by decide) rfl ?_; intro gn X4 hS hgs hges hX1b; have H4 := hid (HS.out.turn hX1b); have HNW := hid (news_box hS [.int .u8 128] rfl); clear hS hgs hges hX1b) | (refine wpList_append_at _ _ _ rfl (.slice D n d) rfl ⟨gn, 0, none⟩ 1 1 rfl rfl 5 i5 (.int .u8 0) 1 1 Tryd.underlying42 HI.out.1 HI.out.2.1 HI.out.2.2.1 HI.out.2.2.2 rfl (by decide) n (bvL fl) H4.out.row [.int .u8 128] rfl HNW.out (by simp [Value.oneCell']) (by unfold maxLen; omega) (by omega) ?_; intro v' X5 hO2 hT2 hfr; have H5 := hid (H4.out.grow hO2 hT2 hfr); clear hO2 hT2 hfr; obtain ⟨B1, d1, hv', _⟩ := row_slice H5.out; subst hv'))
      obtain ⟨b1, hb1⟩ : ∃ b, b = fl ++ [128] := ⟨_, rfl⟩
      have HB1 := hid (show b1.length = n + 1 by rw [hb1, List.length_append, ← HN.out]; rfl)
      rw [show bvL fl ++ [Value.int .u8 128] = bvL b1 by rw [hb1]; simp [bvL]] at H5
      clear hb1 HN H4 HNW HS HP
      go_loopw [3] (fun v X => ∃ (m : Nat) (D : Option Addr) (d : Nat) (b : List UInt8), v = .slice D m d ∧ 1 ≤ m ∧ m + (240 - m % 128) % 128 ≤ 10128 ∧ Hid (b.length = m) ∧ Hid (St W0 (Row (.slice D m d) 5 1 m (bvL b) :: Blk go (bv (List.replicate 64 0)) 55 :: L) X)) (fun v _ => (240 - lenOf v % 128) % 128)
      case atStart => exact ⟨n + 1, B1, d1, b1, rfl, by omega, by omega, HB1, H5⟩
      case round =>
        clear H5 HB1
        obtain ⟨m, D, d, b, rfl, hm1, hmb, HL, HS⟩ := hrel
        have m0 : (0 : Int) ≤ (m : Int) := by omega
        obtain ⟨q, hq⟩ : ∃ q, q = m % 128 := ⟨_, rfl⟩
        have em : (m : Int).tmod 128 = (q : Int) := by rw [Int.tmod_eq_emod_of_nonneg m0]; omega
        have em2 : (m : Int) % 128 = (q : Int) := by omega
        have HQ := hid hq
        have HMB := hid (And.intro hm1 hmb)
        by_cases h112 : q = 112
        · have e2 : (q : Int) = 112 := by omega
          obtain ⟨gb, hgb⟩ := row_some HS.out (by omega)
          subst hgb
          have hm2 : m + 8 ≤ 1000000 := by omega
          have HM8 := hid (show m % 128 = 112 ∧ m ≤ 10128 by omega)
          clear hq hm1 hmb
          go_wp2_with (refine wpList_append_zeros _ _ 42 3 rfl rfl (kq := .i64) (m := 8) rfl rfl 5 i5 Tryd.underlying42 Tryd.underlying3 HI.out.1 HI.out.2.1 HI.out.2.2.1 HI.out.2.2.2 HS.out.row (by decide) hm2 ?_; intro v' X5 hO2 hT2 hfr; have H5 := hid (HS.out.grow hO2 (hT2.mono fun _ _ e => by subst e; rfl) hfr); clear hO2 hT2 hfr; obtain ⟨B1, d1, hv', _⟩ := row_slice H5.out; subst hv')
          obtain ⟨b2, hb2⟩ : ∃ x, x = b ++ List.replicate 8 0 := ⟨_, rfl⟩
          have HB2 := hid (show b2.length = m + 8 by rw [hb2, List.length_append, HL.out, List.length_replicate])
          rw [← hb2] at H5
          clear hb2 HL HS em em2 e2
          go_loopw [3, 7] (fun v j X => ∃ (k : Nat) (ji : Int) (D : Option Addr) (d : Nat) (b : List UInt8), k ≤ 8 ∧ ji = 7 - (k : Int) ∧ v = .slice D (m + 8 + k) d ∧ j = .int .i64 ji ∧ Hid (b.length = m + 8 + k) ∧ Hid (St W0 (Row (.slice D (m + 8 + k) d) 5 1 (m + 8 + k) (bvL b) :: Blk go (bv (List.replicate 64 0)) 55 :: L) X)) (fun _ j _ => (intOf j + 1).toNat)
          case atStart => exact ⟨0, 7, B1, d1, b2, Nat.zero_le _, by omega, rfl, rfl, HB2, H5⟩
          case round =>
            clear H5 HB2
            obtain ⟨k, ji, D, d, b, hk8, hji, rfl, rfl, HL, HS⟩ := hrel
            have HJ := hid hji
            by_cases hlt : k < 8
            · have e1 : (0 : Int) ≤ ji := by omega
              have e2 : ji ≤ 7 := by omega
              obtain ⟨z, hz⟩ := u8_ex ((n : Int) * 8 / 2 ^ (8 * ji).toNat)
              have hm4 : m + 8 + k + 1 ≤ maxLen := by unfold maxLen; omega
              have hm5 : (m + 8 + k + 1) * 1 ≤ 140737488355328 := by omega
              clear hji
              go_wp2_with (first | (refine wpList_buildSlice1 _ rfl (.int .u8 z.toNat) (by simp [Act.eval]; exact hz) rfl Tryd.underlying42 zero5s size5s (by decide) (by decide) rfl ?_; intro gn X4 hS hgs hges hX1b; have H4 := hid (HS.out.turn hX1b); have HNW := hid (news_box hS [.int .u8 z.toNat] rfl); clear hS hgs hges hX1b) | (refine wpList_append_at _ _ _ rfl (.slice D (m + 8 + k) d) rfl ⟨gn, 0, none⟩ 1 1 rfl rfl 5 i5 (.int .u8 0) 1 1 Tryd.underlying42 HI.out.1 HI.out.2.1 HI.out.2.2.1 HI.out.2.2.2 rfl (by decide) (m + 8 + k) (bvL b) H4.out.row [.int .u8 z.toNat] rfl HNW.out (by simp [Value.oneCell']) hm4 hm5 ?_; intro v' X5 hO2 hT2 hfr; have H5 := hid (H4.out.grow hO2 hT2 hfr); clear hO2 hT2 hfr; obtain ⟨B1, d1, hv', _⟩ := row_slice H5.out; subst hv'))
              rw [show bvL b ++ [Value.int .u8 z.toNat] = bvL (b ++ [z]) by simp [bvL]] at H5
              go_roundw
              case rel => exact ⟨k + 1, ji - 1, B1, d1, b ++ [z], by omega, by rw [HJ.out]; omega, rfl, rfl, hid (by rw [List.length_append, HL.out]; rfl), H5⟩
              case measure => (simp [intOf] <;> omega)
            · have e1 : ¬ (0 : Int) ≤ ji := by omega
              obtain rfl : k = 8 := by omega
              obtain ⟨N, hN⟩ : ∃ N, N = m + 8 + 8 := ⟨_, rfl⟩
              obtain ⟨all, hall⟩ : ∃ a, a = b := ⟨_, rfl⟩
              rw [← hN, ← hall] at HS
              rw [← hN]
              have HNA := hid (show N = all.length by rw [hall, hN]; exact HL.out.symm)
              have HN8 := hid (show N % 128 = 0 ∧ N ≤ 20000 by have := HM8.out; omega)
              clear HL hall hN hji
              obtain ⟨l0, l1, t0, f0, t1, f1, h8, h80, h0, h1⟩ := HG.out _ _ HS.out
              have LG : (loadK 91 (.pointer (some ⟨0, 0, none⟩))).run Tryd.prog wr = .ok (.value (.agg (w64 l0))) wr := run_loadK_box h0 Tryd.underlying91 rfl size8l ((w64_size _).trans h8)
              have HL0 := hid h8
              have HS0 := hid ((w64_size l0).trans h8)
              clear h0 h1 h8 h80
              have HV1 := hid (show St W0 (Vals [.slice D N d] [all] :: Blk go (bv (List.replicate 64 0)) 55 :: L) wr from HS.out.row_val HNA.out)
              go_wp2_with (first | (refine wpList_alloc 91 rfl rfl (.agg (w64 (List.replicate 8 0))) zero8l ?_; intro gh W2 h1 hl1 hg1 hW1; have H2 := hid (HV1.out.newBlk hW1 hg1 h1); clear h1 hl1 hg1 hW1 LG) | (refine wpList_store_box 91 _ _ rfl gh rfl rfl (w64 l0) rfl 8 size8l HS0.out (w64_one _) 91 _ H2.out.blk HZ8.out ?_; intro W5 hB hT hs; have H5 := hid (H2.out.put hB hT); clear hB hT hs))
              have HV2 := hid (vals_one H5.out.at2 HNA.out)
              go_loopw [3] (fun v X => ∃ (i : Nat) (B' : Option Addr) (c' : Nat) (rr : List UInt8) (hs : List UInt64), 128 * i ≤ N ∧ v = .slice B' rr.length c' ∧ rr.length ≤ c' ∧ c' ≤ maxLen ∧ Hid (rr = all.drop (128 * i)) ∧ Hid (hs.length = 8) ∧ Hid (∀ X M, St W0 (Vals [.slice D N d] [all] :: M) X → BytesIn X B' rr) ∧ Hid (St W0 (Blk gh (w64 hs) 91 :: Vals [.slice D N d] [all] :: Blk go (bv (List.replicate 64 0)) 55 :: L) X)) (fun v _ => lenOf v)
              case atStart => exact ⟨0, D, d, all, l0, Nat.zero_le _, by rw [← HNA.out], by have := HV2.out.2.1; have := HNA.out; omega, HV2.out.2.2, hid rfl, HL0, hid (fun X M hX => (vals_one hX HNA.out).1), H5⟩
              case round =>
                clear H2 H5 HV2 HS HV1
                obtain ⟨i, B', c', rr, hs, hi, rfl, hrr1, hrr2, HRR, HL8, HBR, HS⟩ := hrel
                have HRL := hid (show rr.length = N - 128 * i by rw [HRR.out, List.length_drop, HNA.out])
                unfold maxLen at hrr2
                by_cases h64 : 128 ≤ rr.length
                · have e1 : (0 : Int) < (rr.length : Int) := by omega
                  have e2 : (128 : Int) ≤ (c' : Int) := by omega
                  have e2b : (128 : Int) ≤ (rr.length : Int) := by omega
                  have e3 : 128 ≤ c' := by omega
                  obtain ⟨b0, hb0⟩ : ∃ b, rr[0]? = some b := ⟨_, List.getElem?_eq_getElem (by omega)⟩
                  obtain ⟨gb, ob, rfl, _, _⟩ := HBR.out wr _ HS.out.at2 0 b0 hb0
                  have HPR := hid (show ∀ X, St W0 (Blk gh (w64 hs) 91 :: Vals [.slice D N d] [all] :: Blk go (bv (List.replicate 64 0)) 55 :: L) X → Calls Tryd.prog 42 #[.agg (w64 hs), .slice (some ⟨gb, ob, none⟩) rr.length c'] X fun x w' => (∃ h', h'.length = 8 ∧ x = .returned (.agg (w64 h'))) ∧ Below X.heap.size X w' from fun X hX => press5_ok HL8.out (HG.out X _ hX) (HBR.out X _ hX.at2) h64 rfl)
                  have HWS3 := hid ((w64_size hs).trans HL8.out)
                  have HLD := hid (show ∀ X, St W0 (Blk gh (w64 hs) 91 :: Vals [.slice D N d] [all] :: Blk go (bv (List.replicate 64 0)) 55 :: L) X → (loadK 91 (.pointer (some ⟨gh, 0, none⟩))).run Tryd.prog X = .ok (.value (.agg (w64 hs))) X from fun X hX => run_loadK_box hX.blk Tryd.underlying91 rfl size8l HWS3.out)
                  have HBN := hid (show ∀ X M, St W0 (Vals [.slice D N d] [all] :: M) X → BytesIn X (if c' = 128 then some ⟨gb, ob, none⟩ else some ⟨gb, ob + 128, none⟩) (rr.drop 128) from fun X M hX => by
                    by_cases hc : c' = 128
                    · rw [List.drop_of_length_le (by omega)]
                      intro k b hk; cases hk
                    · rw [if_neg hc]
                      exact (HBR.out X M hX).shift 128)
                  have LD := HLD.out _ HS.out
                  clear hb0
                  go_wp2_with (first | (go_at_call 42; (with_reducible refine (HPR.out _ HS.out).mono ?_); rintro v X3 ⟨⟨h', hl', rfl⟩, hb⟩; have H3 := hid (HS.out.turn hb); have HL' := hid hl'; have HWS2 := hid ((w64_size h').trans hl'); clear hb hl' LD) | (refine wpList_store_box 91 _ _ rfl gh rfl rfl (w64 h') rfl 8 size8l HWS2.out (w64_one _) 91 _ H3.out.blk HWS3.out ?_; intro X4 hB hT hs2; have H4 := hid (H3.out.put hB hT); clear hB hT hs2))
                  go_roundw
                  case rel => exact ⟨i + 1, if c' = 128 then some ⟨gb, ob, none⟩ else some ⟨gb, ob + 128, none⟩, c' - 128, rr.drop 128, h', by have := HRL.out; omega, by rw [List.length_drop], by rw [List.length_drop]; omega, by unfold maxLen; omega, hid (by rw [HRR.out, List.drop_drop]; congr 1), HL', HBN, H4⟩
                  case measure => (simp [lenOf] <;> omega)
                · have hl0 : rr.length = 0 := by have := HRL.out; have := HN8.out; omega
                  have e1 : ¬ (0 : Int) < (rr.length : Int) := by omega
                  have HVS := hid ((w64_size hs).trans HL8.out)
                  clear hl0
                  go_wp2_with (refine wpList_alloc 55 rfl rfl (.agg (bv (List.replicate 64 0))) zero64b ?_; intro g9 W6 h1 hl1 hg1 hW1; have H6 := hid (HS.out.newBlk hW1 hg1 h1); clear h1 hl1 hg1 hW1; have LB2 : (loadK 91 (.pointer (some ⟨gh, 0, none⟩))).run Tryd.prog W6 = .ok (.value (.agg (w64 hs))) W6 := run_loadK_box H6.out.at2.blk Tryd.underlying91 rfl size8l HVS.out)
                  go_loopw [10, 11, 12, 61, 65] (fun _ _ _ v _ X => ∃ (j : Nat) (l : List UInt8), j ≤ 8 ∧ v = .int .i64 j ∧ Hid (l.length = 64) ∧ Hid (St W0 (Blk g9 (bv l) 55 :: Blk gh (w64 hs) 91 :: Vals [.slice D N d] [all] :: Blk go (bv (List.replicate 64 0)) 55 :: L) X)) (fun _ _ _ v _ _ => 8 - (intOf v).toNat)
                  case atStart => exact ⟨0, List.replicate 64 0, Nat.zero_le _, rfl, hid (by rw [List.length_replicate]), H6⟩
                  case round =>
                    clear H6 HS
                    obtain ⟨j, l, hj, rfl, HLL, HS⟩ := hrel
                    have j0 : (0 : Int) ≤ (j : Int) := by omega
                    by_cases hlt : j < 8
                    · have e1 : (j : Int) < 8 := by omega
                      obtain ⟨x, hx⟩ : ∃ x, x = hs.getD j 0 := ⟨_, rfl⟩
                      have IX : (Instr.index 91 (.agg (w64 hs)) (.int .i64 j)).run Tryd.prog wr = .ok (.int .u64 (x.toNat : Int)) wr := by rw [hx]; exact run_index_w64 Tryd.underlying91 Tryd.underlying65 sizeU64 hs HL8.out j hlt wr
                      clear hx
                      go_wp2_with fail
                      go_loopw [12, 65] (fun _ v X => ∃ (k : Nat) (l : List UInt8), k ≤ 8 ∧ v = .int .i64 k ∧ Hid (l.length = 64) ∧ Hid (St W0 (Blk g9 (bv l) 55 :: Blk gh (w64 hs) 91 :: Vals [.slice D N d] [all] :: Blk go (bv (List.replicate 64 0)) 55 :: L) X)) (fun _ v _ => 8 - (intOf v).toNat)
                      case atStart => exact ⟨0, l, Nat.zero_le _, rfl, HLL, HS⟩
                      case round =>
                        clear HS HLL
                        obtain ⟨k, l, hk, rfl, HLL, HS⟩ := hrel
                        have k0 : (0 : Int) ≤ (k : Int) := by omega
                        by_cases hlt2 : k < 8
                        · have e2 : (k : Int) < 8 := by omega
                          obtain ⟨p, hp⟩ : ∃ p, p = 8 * j + k := ⟨_, rfl⟩
                          have ep : 8 * (j : Int) + (k : Int) = (p : Int) := by omega
                          have hp1 : (p : Int) < 64 := by omega
                          have hp2 : p < 64 := by omega
                          have hs0 : (0 : Int) ≤ 8 * (7 - (k : Int)) := by omega
                          have hs1 : (k : Int) ≤ 7 := by omega
                          obtain ⟨z, hz⟩ := u8_ex ((x.toNat : Int) / 2 ^ (8 * (7 - k)))
                          have cp : ∃ u, wr.cell? ⟨g9, p, none⟩ = some u := by
                            rw [cell_of_row wr g9 p _ _ _ HS.out.blk]
                            exact ⟨_, Array.getElem?_eq_getElem (by rw [bv_size, HLL.out]; exact hp2)⟩
                          obtain ⟨u, hu⟩ := cp
                          have f3 := frozen_of_row wr g9 p _ _ HS.out.blk
                          have HS2 := hid (HS.out.setCell p (.int .u8 z.toNat))
                          rw [bv_set] at HS2
                          clear hp
                          go_wp2_with fail
                          go_roundw
                          case rel => exact ⟨k + 1, l.set p z, by omega, by go_num, hid (by rw [List.length_set]; exact HLL.out), HS2⟩
                          case measure => (simp [intOf] <;> omega)
                        · have e2 : ¬ (k : Int) < 8 := by omega
                          obtain rfl : k = 8 := by omega
                          go_wp2_with fail
                          go_roundw
                          case rel => exact ⟨j + 1, l, by omega, by go_num, HLL, HS⟩
                          case measure => (simp [intOf] <;> omega)
                    · have e1 : ¬ (j : Int) < 8 := by omega
                      obtain rfl : j = 8 := by omega
                      have HZ := hid ((bv_size l).trans HLL.out)
                      have LB : (loadK 55 (.pointer (some ⟨g9, 0, none⟩))).run Tryd.prog wr = .ok (.value (.agg (bv l))) wr := run_loadK_box HS.out.blk Tryd.underlying55 rfl size64b HZ.out
                      go_wp2_with (refine wpList_store_box 55 _ _ rfl go rfl rfl (bv l) rfl 64 size64b HZ.out (bv_one _) 55 _ HS.out.at4.blk HZ64.out ?_; intro W5 hB5 hT5 hs5; have H5 := hid (HS.out.at4.put hB5 hT5))
                      exact bodyPost_ret (results_cell rfl _ _ _ go 55 (bv _) (0, 0) rfl hB5 Tryd.underlying55 (by rw [HZ.out]; exact size64b)) rfl ⟨⟨l, HLL.out, rfl⟩, H5.out.drop.drop.drop.drop⟩
        · have e2 : ¬ (q : Int) = 112 := by omega
          have hm2 : m + 1 ≤ maxLen := by unfold maxLen; omega
          have hm3 : (m + 1) * 1 ≤ 140737488355328 := by omega
          clear hq hm1 hmb
          go_wp2_with (first | (refine wpList_buildSlice1 _ rfl (.int .u8 0) (by simp [Act.eval]) rfl Tryd.underlying42 zero5s size5s (by decide) (by decide) rfl ?_; intro gn X4 hS hgs hges hX1b; have H4 := hid (HS.out.turn hX1b); have HNW := hid (news_box hS [.int .u8 0] rfl); clear hS hgs hges hX1b) | (refine wpList_append_at _ _ _ rfl (.slice D m d) rfl ⟨gn, 0, none⟩ 1 1 rfl rfl 5 i5 (.int .u8 0) 1 1 Tryd.underlying42 HI.out.1 HI.out.2.1 HI.out.2.2.1 HI.out.2.2.2 rfl (by decide) m (bvL b) H4.out.row [.int .u8 0] rfl HNW.out (by simp [Value.oneCell']) hm2 hm3 ?_; intro v' X5 hO2 hT2 hfr; have H5 := hid (H4.out.grow hO2 hT2 hfr); clear hO2 hT2 hfr; obtain ⟨B1, d1, hv', _⟩ := row_slice H5.out; subst hv'))
          rw [show bvL b ++ [Value.int .u8 0] = bvL (b ++ [0]) by simp [bvL]] at H5
          go_roundw
          case rel => exact ⟨m + 1, B1, d1, b ++ [0], rfl, by omega, by have := HMB.out; have := HQ.out; omega, hid (by rw [List.length_append, HL.out]; rfl), H5⟩
          case measure => (have := HQ.out; simp [lenOf] <;> omega)
end
end Go.Proofs.YtnakbdgoaepehaaDoor
/- The same bytes are the same. -/
namespace Go.Proofs.YtnakbdgoaepehaaDoor
open Go.RowKit Go.Cu
section
variable {W0 W : World} {L : List Atm}
set_option maxRecDepth 20000 in
set_option maxHeartbeats 4000000 in
theorem same_st (h : St W0 L W) {A : Option Addr} {n c : Nat} {b : List UInt8} (hn : n = b.length) (hnb : n ≤ 1000000) (hb : ∀ X, St W0 L X → BytesIn X A b) :
    Calls Tryd.prog 23 #[.slice A n c, .slice A n c] W fun x w' => x = .returned (.bool true) ∧ St W0 L w' := by
  have HH := hid h
  have HB := hid hb
  have HN := hid hn
  have OO : bits .or .u8 0 0 = 0 := by decide
  clear h hb hn
  go_enter Tryd.func23, Tryd.ntmps23
  go_wp2_with fail
  go_loopw [5, 6, 7, 15] (fun v _ _ k X => ∃ i : Nat, i ≤ n ∧ k = .int .i64 i ∧ v = .int .u8 0 ∧ Hid (St W0 L X)) (fun _ _ _ k _ => n - (intOf k).toNat)
  case atStart => exact ⟨0, Nat.zero_le _, rfl, rfl, HH⟩
  case round =>
    clear HH
    obtain ⟨i, hi, rfl, rfl, HS⟩ := hrel
    have i0 : (0 : Int) ≤ (i : Int) := by omega
    by_cases hlt : i < n
    · have e1 : (i : Int) < (n : Int) := by omega
      obtain ⟨x, hx⟩ : ∃ x, b[i]? = some x := ⟨_, List.getElem?_eq_getElem (by have := HN.out; omega)⟩
      obtain ⟨g, o, rfl, _, hc⟩ := HB.out _ HS.out i x hx
      have XX : bits .xor .u8 (x.toNat : Int) (x.toNat : Int) = 0 := by
        rw [u8_xor_b]
        simp
      clear hx
      go_wp2_with fail
      go_roundw
      case rel => exact ⟨i + 1, by omega, by go_num, rfl, HS⟩
      case measure => (simp [intOf] <;> omega)
    · have e1 : ¬ (i : Int) < (n : Int) := by omega
      go_wp2_with fail
      go_ret
      exact ⟨rfl, HS.out⟩
end
end Go.Proofs.YtnakbdgoaepehaaDoor
/- Calls upon what lies in memory now. -/
namespace Go.Cu
open Go Go.RowKit
section
variable {X : World} {g : Nat} {t : TypeId} {fr : Nat × Nat} {v v' : Value} {b b' : List UInt8}
theorem part_now {B : Option Addr} {n cb : Nat} (hn : n = b.length) (h1 : n ≤ cb) (h2 : cb ≤ maxLen) (hb : BytesIn X B b) : Part X [] (.slice B n cb) b := by
  subst hn
  exact ⟨B, cb, rfl, h1, h2, fun Y hY => hb.below hY.below⟩
theorem now_cell {cs : Array Value} (hc : X.heap[g]? = some (.cells cs t fr)) {Y : World} (hY : St X [] Y) (i : Nat) : Y.cell? ⟨g, i, none⟩ = cs[i]? := by
  have hg : g < X.heap.size := heap_lt hc
  exact cell_of_row Y g i _ _ _ ((hY.below.block g hg).trans hc)
theorem parts1_now (hc : X.heap[g]? = some (.cells #[v] t fr)) (h : Part X [] v b) : PartsIn X [] (some ⟨g, 0, none⟩) [b] := fun i r hi => by
  match i with
  | i + 1 => cases hi
  | 0 =>
    obtain rfl : b = r := by simpa using hi
    obtain ⟨B, cb, rfl, h2, h3, h4⟩ := h
    exact ⟨g, 0, B, cb, rfl, h2, h3, fun Y hY => ⟨(now_cell hc hY 0).trans rfl, h4 Y hY⟩⟩
theorem parts2_now (hc : X.heap[g]? = some (.cells (#[v] ++ #[v']) t fr)) (h : Part X [] v b) (h' : Part X [] v' b') : PartsIn X [] (some ⟨g, 0, none⟩) [b, b'] := fun i r hi => by
  match i with
  | i + 2 => cases hi
  | 0 =>
    obtain rfl : b = r := by simpa using hi
    obtain ⟨B, cb, rfl, h2, h3, h4⟩ := h
    exact ⟨g, 0, B, cb, rfl, h2, h3, fun Y hY => ⟨(now_cell hc hY 0).trans rfl, h4 Y hY⟩⟩
  | 1 =>
    obtain rfl : b' = r := by simpa using hi
    obtain ⟨B, cb, rfl, h2, h3, h4⟩ := h'
    exact ⟨g, 0, B, cb, rfl, h2, h3, fun Y hY => ⟨(now_cell hc hY 1).trans rfl, h4 Y hY⟩⟩
end
end Go.Cu
namespace Go.Proofs.YtnakbdgoaepehaaDoor
open Go.RowKit Go.Cu
section
variable {X : World}
theorem hof_now (hG : Glob X) {K : Option Addr} {n kc : Nat} {k : List UInt8} (hn : n = k.length) (hk : BytesIn X K k) (hkl : k.length ≤ 64) {A : Option Addr} {m c : Nat} {ps : List (List UInt8)} (hm : m = ps.length) (hp : PartsIn X [] A ps) (hps : ps.length ≤ 1000000) (hl : ps.flatten.length ≤ 100000000000) :
    Calls Tryd.prog 21 #[.slice K n kc, .slice A m c] X fun x w' => x = .returned (.agg (bv (hmacL k ps.flatten))) ∧ Below X.heap.size X w' := by
  subst hn hm
  exact (hof_st (St.start X) hG (fun Y hY => hk.below hY.below) hkl hp hps hl).mono fun e w' h => ⟨h.1, h.2.below⟩
theorem sha_now (hG : Glob X) {A : Option Addr} {m c : Nat} {ps : List (List UInt8)} (hm : m = ps.length) (hp : PartsIn X [] A ps) (hps : ps.length ≤ 1000000) (hl : ps.flatten.length ≤ 1000000000000) :
    Calls Tryd.prog 16 #[.slice A m c] X fun x w' => x = .returned (.agg (bv (sumL ps.flatten))) ∧ Below X.heap.size X w' := by
  subst hm
  exact (sha_st (St.start X) hG hp hps hl).mono fun e w' h => ⟨h.1, h.2.below⟩
end
end Go.Proofs.YtnakbdgoaepehaaDoor
/- What the marks' walk stands on: slots that keep what they have, bytes as a text. -/
namespace Go.Cu
open Go Go.RowKit
theorem put_self (a : Act) (i : Tmp) : a.put (some i) (a.tmps.getD i undef) = a := by
  unfold Act.put
  simp only
  congr 1
  apply Array.ext_getElem?
  intro j
  rw [Array.getElem?_setIfInBounds]
  split
  · rename_i h
    subst h
    split
    · rename_i h
      simp [h]
    · rename_i h
      simp [Nat.le_of_not_lt h]
  · rfl
theorem exists_put4 {a : Act} {i j k l : Tmp} {R : Value → Value → Value → Value → Prop} (h : ∀ x y z u, a = (((a.put (some i) x).put (some j) y).put (some k) z).put (some l) u → R x y z u) : ∃ x y z u, R x y z u :=
  ⟨_, _, _, _, h (a.tmps.getD i undef) (a.tmps.getD j undef) (a.tmps.getD k undef) (a.tmps.getD l undef) (by rw [put_self, put_self, put_self, put_self])⟩
theorem bytes_drop {W : World} {g o : Nat} {r : List UInt8} (h : BytesIn W (some ⟨g, o, none⟩) r) (m : Nat) : BytesIn W (some ⟨g, o + m, none⟩) (r.drop m) := fun i b hi => by
  rw [List.getElem?_drop] at hi
  obtain ⟨g', o', e, hg, hc⟩ := h (m + i) b hi
  obtain ⟨rfl, rfl⟩ : g = g' ∧ o = o' := by cases e; exact ⟨rfl, rfl⟩
  exact ⟨g, o + m, rfl, hg, by rw [Nat.add_assoc]; exact hc⟩
def strB (r : List UInt8) : ByteArray := ⟨r.toArray⟩
/-- A text. -/
def sv (r : List UInt8) : Value := .string (strB r)
def numsB (l : List UInt8) : List Int := l.map fun b => (b.toNat : Int)
theorem numsB_bytes (l : List UInt8) : Lib.bytesOf (numsB l) = l := by
  unfold Lib.bytesOf numsB
  rw [List.map_map]
  conv => rhs; rw [← List.map_id l]
  refine List.map_congr_left fun b _ => ?_
  simp
theorem numsB_getD {l : List UInt8} {i : Nat} (h : i < l.length) : (numsB l).getD i 0 = ((l.getD i 0).toNat : Int) := by
  simp [numsB, List.getD, List.getElem?_eq_getElem h]
end Go.Cu
namespace Go.Proofs.YtnakbdgoaepehaaDoor
open Go.RowKit Go.Cu
/-- Bytes as a text. -/
theorem conv_bytes {W : World} {A : Option Addr} {r : List UInt8} (h : BytesIn W A r) (n c : Nat) (hn : n = r.length) : (convert 42 9 (.slice A n c)).run Tryd.prog W = .ok (sv r) W := by
  subst hn
  match r, h with
  | [], _ =>
    rw [List.length_nil, run_convert_bytes_string (P := Tryd.prog) W 42 9 5 A 0 c Tryd.underlying42 Tryd.underlying5 Tryd.underlying9]
    cases A with
    | none => simp [Conv.bytesToString]; rfl
    | some a =>
      have hl := run_loadCells_list (P := Tryd.prog) W a [] (fun j v hj => by cases hj)
      simp [Conv.bytesToString, hl] at hl ⊢
      rfl
  | b :: r, h =>
    obtain ⟨g, o, rfl, _, _⟩ := h 0 b rfl
    have h1 := run_convert_bytes_arg (P := Tryd.prog) W 42 5 Tryd.underlying42 Tryd.underlying5 g o (b :: r).length c (numsB (b :: r)) (by simp [numsB]) (fun i hi => by
      obtain ⟨g', o', e, _, hc⟩ := h i ((b :: r)[i]) (List.getElem?_eq_getElem hi)
      cases e
      rw [hc, numsB_getD hi, List.getD_eq_getElem?_getD, List.getElem?_eq_getElem hi]
      rfl) 9 Tryd.underlying9
    rw [h1]
    have : strOfNums (numsB (b :: r)) = strB (b :: r) := by
      have e := congrArg List.toArray (numsB_bytes (b :: r))
      unfold strOfNums strB
      congr 1
    rw [this]
    rfl
end Go.Proofs.YtnakbdgoaepehaaDoor
