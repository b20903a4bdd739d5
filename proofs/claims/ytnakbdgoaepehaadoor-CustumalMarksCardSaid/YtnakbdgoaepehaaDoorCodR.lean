/- The codec's reader. -/
import Derived.Test.YtnakbdgoaepehaaDoorCodW
import Derived.Laws.Bits64b
import Derived.Laws.BitsLemmas
namespace Go.Cu
open Go Go.RowKit
section
variable {W0 W : World} {L : List Atm}
/-- A reader of all, at o. -/
abbrev Rdr (tr g gb C : Nat) (all : List UInt8) (o p : Nat) (L : List Atm) : List Atm := Blk g #[.slice (some ⟨gb, p, none⟩) (all.length - o) (C - o), .int .i64 0] tr :: Row (.slice (some ⟨gb, 0, none⟩) all.length C) 5 1 all.length (bvL all) :: L
theorem rdr_cells {tr g : Nat} {v : Value} {M : List Atm} (h : St W0 (Blk g #[v, .int .i64 0] tr :: M) W) : W.cell? ⟨g, 0, none⟩ = some v ∧ W.cell? ⟨g, 1, none⟩ = some (.int .i64 0) ∧ W.frozen? ⟨g, 0, none⟩ = false :=
  ⟨(cell_of_row W g 0 _ _ _ h.blk).trans rfl, (cell_of_row W g 1 _ _ _ h.blk).trans rfl, frozen_of_row W g 0 _ _ h.blk⟩
end
end Go.Cu
namespace Go.Proofs.YtnakbdgoaepehaaDoor
open Go.RowKit Go.Cu
theorem bits_or_i64_nat (a b : Nat) (ha : a < 65536) (hb : b < 65536) : bits .or .i64 (a : Int) (b : Int) = ((a ||| b : Nat) : Int) := by
  have hx : a ||| b < 2 ^ 16 := Nat.or_lt_two_pow (by omega) (by omega)
  have h1 : (BitVec.ofInt 64 (a : Int)).toNat = a := by
    rw [BitVec.ofInt_natCast, BitVec.toNat_ofNat]; exact Nat.mod_eq_of_lt (by omega)
  have h2 : (BitVec.ofInt 64 (b : Int)).toNat = b := by
    rw [BitVec.ofInt_natCast, BitVec.toNat_ofNat]; exact Nat.mod_eq_of_lt (by omega)
  show IntKind.i64.wrap ((BitVec.ofInt 64 (a : Int) ||| BitVec.ofInt 64 (b : Int)).toNat : Int) = _
  rw [BitVec.toNat_or, h1, h2, IntKind.wrap_i64]
  omega
theorem or_bytes {h l : Nat} (hh : h < 256) (hl : l < 256) : bits .or .i64 ((h : Int) * 256) (l : Int) = ((h * 256 + l : Nat) : Int) := by
  have e := bits_or_i64_nat (h * 256) l (by omega) (by omega)
  rw [show ((h * 256 : Nat) : Int) = (h : Int) * 256 from by omega] at e
  rw [e]
  rw [show h * 256 = 2 ^ 8 * h by omega, ← Nat.two_pow_add_eq_or_of_lt (i := 8) (show l < 2 ^ 8 by omega) h]
theorem or_next (q : Nat) (b : UInt8) : bits .or .i64 (wrap64 (wrap64 (q : Int) * 256)) (b.toNat : Int) = wrap64 ((q * 256 + b.toNat : Nat) : Int) := by
  have hb := UInt8.toNat_lt b
  generalize b.toNat = c at *
  have h1 : (BitVec.ofInt 64 (wrap64 (wrap64 (q : Int) * 256))).toNat = 2 ^ 8 * (q % 2 ^ 56) := by
    rw [BitVec.toNat_ofInt]
    unfold wrap64
    omega
  have h2 : (BitVec.ofInt 64 (c : Int)).toNat = c := by
    rw [BitVec.ofInt_natCast, BitVec.toNat_ofNat]; exact Nat.mod_eq_of_lt (by omega)
  show IntKind.i64.wrap ((BitVec.ofInt 64 (wrap64 (wrap64 (q : Int) * 256)) ||| BitVec.ofInt 64 (c : Int)).toNat : Int) = _
  rw [BitVec.toNat_or, h1, h2, IntKind.wrap_i64, ← Nat.two_pow_add_eq_or_of_lt (i := 8) (show c < 2 ^ 8 by omega)]
  unfold wrap64
  omega
theorem acc_step (N i : Nat) (hi : i < 8) (b : UInt8) (hb : b = UInt8.ofNat (N / 2 ^ (8 * (7 - i)))) : bits .or .i64 (wrap64 (wrap64 ((N / 2 ^ (8 * (8 - i)) : Nat) : Int) * 256)) (b.toNat : Int) = wrap64 ((N / 2 ^ (8 * (8 - (i + 1))) : Nat) : Int) := by
  rw [or_next, hb, UInt8.toNat_ofNat']
  have e1 : 8 * (8 - i) = 8 * (8 - (i + 1)) + 8 := by omega
  have e2 : 8 * (7 - i) = 8 * (8 - (i + 1)) := by omega
  rw [e1, e2, Nat.pow_add, ← Nat.div_div_eq_div_mul]
  congr 2
  omega
section
variable {W0 W : World} {L : List Atm} {g gb C : Nat} {all : List UInt8} {o : Nat}
set_option maxRecDepth 20000 in
set_option maxHeartbeats 4000000 in
theorem rtake_st (h : St W0 (Rdr 90 g gb C all o o L) W) {k : Nat} (hk : o + k ≤ all.length) (hC : all.length ≤ C) :
    Calls Tryd.prog 41 #[.pointer (some ⟨g, 0, none⟩), .int .i64 k] W fun x w' => x = .returned (.slice (some ⟨gb, o, none⟩) k (C - o)) ∧ ∃ p, (o + k < all.length → p = o + k) ∧ St W0 (Rdr 90 g gb C all (o + k) p L) w' := by
  have HH := hid h
  obtain ⟨x0, x1, f0⟩ := rdr_cells h
  have n1 : ¬ ((all.length - o : Nat) : Int) < (k : Int) := by omega
  have n2 : (k : Int) ≤ ((C - o : Nat) : Int) := by omega
  have n3 : (k : Int) ≤ ((all.length - o : Nat) : Int) := by omega
  have n0 : (0 : Int) ≤ (k : Int) := by omega
  have k1 : k ≤ C - o := by omega
  have k2 : k ≤ all.length - o := by omega
  have HE := hid (show all.length - o - k = all.length - (o + k) ∧ C - o - k = C - (o + k) by omega)
  have HK := hid hk
  have HC := hid hC
  clear h
  by_cases hck : C - o = k
  · go_enter Tryd.func41, Tryd.ntmps41
    go_wp2_with fail
    go_ret
    refine ⟨rfl, o, fun hlt => absurd hlt (by omega), ?_⟩
    have h6 := HH.out.setCell 0 (.slice (some ⟨gb, o, none⟩) (all.length - o - k) 0)
    have e1 : C - (o + k) = 0 := by omega
    unfold Rdr
    rw [e1, ← HE.out.1]
    exact h6
  · go_enter Tryd.func41, Tryd.ntmps41
    go_wp2_with fail
    go_ret
    refine ⟨rfl, o + k, fun _ => rfl, ?_⟩
    have h6 := HH.out.setCell 0 (.slice (some ⟨gb, o + k, none⟩) (all.length - o - k) (C - o - k))
    rw [HE.out.1, HE.out.2] at h6 ⊢
    exact h6
set_option maxRecDepth 20000 in
set_option maxHeartbeats 4000000 in
theorem rend_st {p : Nat} (h : St W0 (Rdr 90 g gb C all all.length p L) W) :
    Calls Tryd.prog 22 #[.pointer (some ⟨g, 0, none⟩)] W fun x w' => x = .returned (.int .i64 0) ∧ St W0 (Rdr 90 g gb C all all.length p L) w' := by
  have HH := hid h
  obtain ⟨x0, x1, f0⟩ := rdr_cells h
  rw [Nat.sub_self] at x0
  clear h
  go_enter Tryd.func22, Tryd.ntmps22
  go_wp2_with fail
  go_ret
  exact ⟨rfl, HH.out⟩
set_option maxRecDepth 20000 in
set_option maxHeartbeats 8000000 in
theorem rtext_st (h : St W0 (Rdr 90 g gb C all 0 0 L) W) {a rest : List UInt8} (hall : all = UInt8.ofNat (a.length / 256) :: UInt8.ofNat a.length :: a ++ rest) (ha : a.length ≤ 300) (hr : 0 < rest.length) (hC : all.length ≤ C) :
    Calls Tryd.prog 18 #[.pointer (some ⟨g, 0, none⟩), .int .i64 300] W fun x w' => ∃ D d p, x = .returned (.slice D a.length d) ∧ (2 + a.length < all.length → p = 2 + a.length) ∧ St W0 (Row (.slice D a.length d) 5 1 a.length (bvL a) :: Rdr 90 g gb C all (2 + a.length) p L) w' := by
  have HH := hid h
  obtain ⟨x0, x1, f0⟩ := rdr_cells h
  have hl : all.length = 2 + a.length + rest.length := by rw [hall]; simp; omega
  have n1 : ¬ ((all.length - 0 : Nat) : Int) < 2 := by omega
  have n2 : ¬ (300 : Int) < (a.length : Int) := by omega
  have n3 : ¬ ((all.length - 0 : Nat) : Int) < 2 + (a.length : Int) := by omega
  have n4 : (0 : Int) < ((all.length - 0 : Nat) : Int) := by omega
  have n5 : (1 : Int) < ((all.length - 0 : Nat) : Int) := by omega
  obtain ⟨b0, hb0⟩ : ∃ b, b = UInt8.ofNat (a.length / 256) := ⟨_, rfl⟩
  obtain ⟨b1, hb1⟩ : ∃ b, b = UInt8.ofNat a.length := ⟨_, rfl⟩
  have HB := hid (fun X (M : List Atm) (hX : St W0 (Blk g #[.slice (some ⟨gb, 0, none⟩) (all.length - 0) (C - 0), .int .i64 0] 90 :: Row (.slice (some ⟨gb, 0, none⟩) all.length C) 5 1 all.length (bvL all) :: M) X) => show X.cell? ⟨g, 0, none⟩ = some (.slice (some ⟨gb, 0, none⟩) (all.length - 0) (C - 0)) ∧ X.cell? ⟨gb, 0, none⟩ = some (.int .u8 b0.toNat) ∧ X.cell? ⟨gb, 1, none⟩ = some (.int .u8 b1.toNat) from by
    obtain ⟨q1, _, _⟩ := row_bytes hX.at2 rfl
    obtain ⟨g1, o1, e1, _, c1⟩ := q1 0 b0 (by rw [hall, hb0]; rfl)
    obtain ⟨g2, o2, e2, _, c2⟩ := q1 1 b1 (by rw [hall, hb1]; rfl)
    cases e1; cases e2
    exact ⟨(rdr_cells hX).1, c1, c2⟩)
  have OB : bits .or .i64 ((b0.toNat : Int) * 256) (b1.toNat : Int) = (a.length : Int) := by
    rw [or_bytes (UInt8.toNat_lt _) (UInt8.toNat_lt _), hb0, hb1, UInt8.toNat_ofNat', UInt8.toNat_ofNat']
    congr 1
    omega
  have B0 := UInt8.toNat_lt b0
  have B1 := UInt8.toNat_lt b1
  have U0 : wrap64 (b0.toNat : Int) = (b0.toNat : Int) := by unfold wrap64; omega
  have U1 : wrap64 (b1.toNat : Int) = (b1.toNat : Int) := by unfold wrap64; omega
  have U2 : wrap64 ((b0.toNat : Int) * 256) = (b0.toNat : Int) * 256 := by unfold wrap64; omega
  have HALL := hid hall
  have HLN := hid hl
  have a0 : (0 : Int) ≤ (a.length : Int) := by omega
  have a1 : (a.length : Int) ≤ 300 := by omega
  obtain ⟨N, hN⟩ : ∃ N, N = all.length - 0 := ⟨_, rfl⟩
  have HH2 := hid (show St W0 (Blk g #[.slice (some ⟨gb, 0, none⟩) N C, .int .i64 0] 90 :: Row (.slice (some ⟨gb, 0, none⟩) all.length C) 5 1 all.length (bvL all) :: L) W by rw [hN]; exact HH.out)
  have HB2 := hid (fun X (hX : St W0 (Blk g #[.slice (some ⟨gb, 0, none⟩) N C, .int .i64 0] 90 :: Row (.slice (some ⟨gb, 0, none⟩) all.length C) 5 1 all.length (bvL all) :: L) X) => show X.cell? ⟨g, 0, none⟩ = some (.slice (some ⟨gb, 0, none⟩) N C) ∧ X.cell? ⟨gb, 0, none⟩ = some (.int .u8 b0.toNat) ∧ X.cell? ⟨gb, 1, none⟩ = some (.int .u8 b1.toNat) from by rw [hN] at hX ⊢; exact HB.out X L hX)
  rw [← hN, Nat.sub_zero] at x0
  rw [← hN] at n1 n3 n4 n5
  clear h hall hl hb0 hb1 B0 B1
  have hNl : N = all.length := hN
  have hCl : N ≤ C := by omega
  have m4 : 0 < N := by omega
  have m5 : 1 < N := by omega
  have HNL := hid hN
  have hNk : (2 : Int) + (a.length : Int) ≤ (N : Int) := by omega
  clear hN hNl
  go_enter Tryd.func18, Tryd.ntmps18
  go_wp2_with fail
  refine wp_region_ord [] [(0, 1), (1, 1), (2, 1), (3, 1), (4, 1), (5, 1), (6, 1), (7, 1), (8, 1), (9, 1), (10, 1), (11, 1), (12, 1), (13, 1), (14, 1), (15, 1), (16, 1)] (fun X => St W0 (Blk g #[.slice (some ⟨gb, 0, none⟩) N C, .int .i64 0] 90 :: Row (.slice (some ⟨gb, 0, none⟩) all.length C) 5 1 all.length (bvL all) :: L) X) (by kernel_rfl) (by kernel_rfl) (fun d _ c _ _ h => by cases d <;> exact h) (HH2.out.turn (Below.drew (Below.refl _ _))) (fun X hXe hX => ?_)
  clear hXe HH HH2 x0 x1 f0
  repeat (first | (apply wpOrd_class; ((· first | (rw [List.getElem?_toArray, List.getElem?_cons_zero]; done) | (simp only [List.getElem?_toArray, List.getElem?_cons_succ, List.getElem?_cons_zero]; exact rfl))); (· exact rfl); intro K hK; apply Exists.intro; refine And.intro (fun X' hX' => ?_) ?_; (· obtain ⟨hq1, hq2, hq3⟩ := HB2.out _ hX'; clear hX'; go_simp; (try go_bits); first | done | exact rfl | exact ⟨rfl, rfl⟩); go_simp; refine hK _ _ ?_; clear hK K) | (apply wpOrd_skip1; ((· first | (rw [List.getElem?_toArray, List.getElem?_cons_zero]; done) | (simp only [List.getElem?_toArray, List.getElem?_cons_succ, List.getElem?_cons_zero]; exact rfl))); (· exact rfl); intro K hK; go_simp; refine hK _ _ ?_; clear hK K))
  refine wpOrd_done ?_
  have HX := hid hX
  obtain ⟨x0, x1, f0⟩ := rdr_cells hX
  have HTK := hid (show Calls Tryd.prog 41 #[.pointer (some ⟨g, 0, none⟩), .int .i64 (2 + (a.length : Int))] X fun x w' => x = .returned (.slice (some ⟨gb, 0, none⟩) (2 + a.length) C) ∧ ∃ p, (2 + a.length < all.length → p = 2 + a.length) ∧ St W0 (Rdr 90 g gb C all (2 + a.length) p L) w' from by
    have h1 := rtake_st (o := 0) (k := 2 + a.length) (show St W0 (Rdr 90 g gb C all 0 0 L) X by unfold Rdr; rw [← HNL.out]; exact hX) (by have := HLN.out; omega) hC
    rw [Nat.zero_add] at h1
    rw [show (2 : Int) + (a.length : Int) = ((2 + a.length : Nat) : Int) by omega]
    exact h1)
  have HCL := hid (fun Y p (hY : St W0 (Rdr 90 g gb C all (2 + a.length) p L) Y) => show Calls Tryd.prog 37 #[.slice (some ⟨gb, 2, none⟩) a.length (C - 2)] Y fun x w' => ∃ D d, x = .returned (.slice D a.length d) ∧ St W0 (Row (.slice D a.length d) 5 1 a.length (bvL a) :: Rdr 90 g gb C all (2 + a.length) p L) w' from bclone_st hY (fun Z hZ => by
    have h1 := ((row_bytes hZ.at2 rfl).1.shift 2).take a.length
    rw [HALL.out] at h1
    simpa using h1) (by omega))
  have hc1 : 2 + a.length ≤ C := by have := HLN.out; omega
  have hcn : ¬ C = 2 := by have := HLN.out; omega
  have hc2 : ((2 + a.length : Nat) : Int) ≤ (C : Int) := by omega
  clear hX HB HB2
  go_wp2_with (first | (go_at_call 41; (with_reducible refine HTK.out.mono ?_); rintro x X5 ⟨rfl, p, hp, h5⟩; have H5 := hid h5; have HPP := hid hp; clear h5 hp) | (go_at_call 37; (with_reducible refine (HCL.out _ _ H5.out).mono ?_); rintro x X6 ⟨D, d, rfl, h6⟩; have H6 := hid h6; clear h6))
  go_ret
  exact ⟨D, d, p, rfl, HPP.out, H6.out⟩
set_option maxRecDepth 20000 in
set_option maxHeartbeats 8000000 in
theorem rnum_st (h : St W0 (Rdr 90 g gb C all o o L) W) {n : Int} (hall : all.drop o = num8 n) (hn1 : -9223372036854775808 ≤ n) (hn2 : n ≤ 9223372036854775807) (hC : all.length ≤ C) :
    Calls Tryd.prog 19 #[.pointer (some ⟨g, 0, none⟩)] W fun x w' => x = .returned (.int .i64 n) ∧ ∃ p, St W0 (Rdr 90 g gb C all all.length p L) w' := by
  have HH := hid h
  have EN := u64_nat n
  unfold num8 at hall
  obtain ⟨N, hN⟩ : ∃ N, N = (IntKind.u64.wrap n).toNat := ⟨_, rfl⟩
  rw [← hN] at EN hall
  have hol : o + 8 = all.length := by
    have := congrArg List.length hall
    rw [List.length_drop, be8_len] at this
    omega
  have HEND := hid (show wrap64 (N : Int) = n from by
    have h1 : IntKind.u64.wrap n = n % 18446744073709551616 := rfl
    rw [← EN, h1]
    unfold wrap64
    omega)
  have HB := hid (fun X p (hX : St W0 (Rdr 90 g gb C all all.length p L) X) (i : Nat) (b : UInt8) (hi : i < 8) (hb : b = UInt8.ofNat (N / 2 ^ (8 * (7 - i)))) => show X.cell? ⟨gb, o + i, none⟩ = some (.int .u8 b.toNat) from by
    obtain ⟨q1, _, _⟩ := row_bytes hX.at2 rfl
    have h1 := be8_get N hi
    rw [← hall, List.getElem?_drop, ← hb] at h1
    obtain ⟨g1, o1, e1, _, c1⟩ := q1 (o + i) b h1
    cases e1
    rw [Nat.zero_add] at c1
    exact c1)
  have HTK := hid (show Calls Tryd.prog 41 #[.pointer (some ⟨g, 0, none⟩), .int .i64 8] W fun x w' => x = .returned (.slice (some ⟨gb, o, none⟩) 8 (C - o)) ∧ ∃ p, St W0 (Rdr 90 g gb C all all.length p L) w' from by
    have h1 := rtake_st (k := 8) h (by omega) hC
    rw [hol] at h1
    exact h1.mono fun e w' ⟨a, p, _, c⟩ => ⟨a, p, c⟩)
  have HNB := hid (show N < 2 ^ (8 * (8 - 0)) by
    have h1 : IntKind.u64.wrap n = n % 18446744073709551616 := rfl
    rw [h1] at EN
    omega)
  clear h hall hN EN hol
  go_enter Tryd.func19, Tryd.ntmps19
  go_wp2_with (go_at_call 41; (with_reducible refine HTK.out.mono ?_); rintro x X5 ⟨rfl, p, h5⟩; have H5 := hid h5; clear h5)
  go_loopw [3, 5, 9] (fun av _ kv X => ∃ (i : Nat) (acc : Int), i ≤ 8 ∧ av = .int .i64 acc ∧ kv = .int .i64 i ∧ Hid (acc = wrap64 ((N / 2 ^ (8 * (8 - i)) : Nat) : Int)) ∧ Hid (St W0 (Rdr 90 g gb C all all.length p L) X)) (fun _ _ kv _ => 8 - (intOf kv).toNat)
  case atStart => exact ⟨0, 0, Nat.zero_le _, rfl, by go_num, hid (by
    have := HNB.out
    rw [Nat.div_eq_of_lt this]; unfold wrap64; omega), H5⟩
  case round =>
    clear H5 HTK HH
    obtain ⟨i, acc, hi, rfl, rfl, HAC, HS⟩ := hrel
    have i0 : (0 : Int) ≤ (i : Int) := by omega
    by_cases hlt : i < 8
    · have e1 : (i : Int) < 8 := by omega
      obtain ⟨b, hb⟩ : ∃ b, b = UInt8.ofNat (N / 2 ^ (8 * (7 - i))) := ⟨_, rfl⟩
      have hc := HB.out _ _ HS.out i b hlt hb
      have hst := acc_step N i hlt b hb
      rw [← HAC.out] at hst
      obtain ⟨ac2, hac2⟩ : ∃ x, x = wrap64 ((N / 2 ^ (8 * (8 - (i + 1))) : Nat) : Int) := ⟨_, rfl⟩
      rw [← hac2] at hst
      have HA2 := hid hac2
      have B0 := UInt8.toNat_lt b
      have U0 : wrap64 (b.toNat : Int) = (b.toNat : Int) := by unfold wrap64; omega
      clear hac2 hb B0
      go_wp2_with fail
      go_roundw
      case rel => exact ⟨i + 1, ac2, by omega, rfl, by go_num, HA2, HS⟩
      case measure => (simp [intOf] <;> omega)
    · have e1 : ¬ (i : Int) < 8 := by omega
      obtain rfl : i = 8 := by omega
      have HR := hid (show acc = n by rw [HAC.out, ← HEND.out]; simp)
      go_wp2_with fail
      go_ret
      rw [HR.out]
      exact ⟨rfl, p, HS.out⟩
end
end Go.Proofs.YtnakbdgoaepehaaDoor
