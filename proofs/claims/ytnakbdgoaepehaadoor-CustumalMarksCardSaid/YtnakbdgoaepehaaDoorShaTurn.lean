/- Words of 32 bits, turned and mixed. -/
import Derived.Test.YtnakbdgoaepehaaDoorArr
import Derived.Test.YtnakbdgoaepehaaDoorTail
import Derived.Test.YtnakbdgoaepehaaDoorShaBase
import Derived.Test.YtnakbdgoaepehaaDoorOrder
import Derived.Laws.Bits64b
import Derived.Laws.BitsLemmas
namespace Go.Cu
open Go Go.RowKit
/-- A word turned to the right. -/
def rotr (x : UInt32) (n : Nat) : UInt32 := UInt32.ofNat (x.toNat * 2 ^ (32 - n) % 4294967296 ||| x.toNat / 2 ^ n)
def smallW (x : UInt32) (p q r : Nat) : UInt32 := rotr x p ^^^ rotr x q ^^^ UInt32.ofNat (x.toNat / 2 ^ r)
def bigW (x : UInt32) (p q r : Nat) : UInt32 := rotr x p ^^^ rotr x q ^^^ rotr x r
theorem ofInt32 {a : Nat} (h : a < 4294967296) : (BitVec.ofInt 32 (a : Int)).toNat = a := by
  rw [BitVec.ofInt_natCast, BitVec.toNat_ofNat]; exact Nat.mod_eq_of_lt h
theorem bits_or_u32 {a b : Nat} (ha : a < 4294967296) (hb : b < 4294967296) : bits .or .u32 (a : Int) (b : Int) = ((a ||| b : Nat) : Int) := by
  have hx : a ||| b < 2 ^ 32 := Nat.or_lt_two_pow (by omega) (by omega)
  show IntKind.u32.wrap ((BitVec.ofInt 32 (a : Int) ||| BitVec.ofInt 32 (b : Int)).toNat : Int) = _
  rw [BitVec.toNat_or, ofInt32 ha, ofInt32 hb, IntKind.wrap_u32]
  omega
theorem bits_xor_u32 (a b : UInt32) : bits .xor .u32 (a.toNat : Int) (b.toNat : Int) = ((a ^^^ b).toNat : Int) := by
  have ha := a.toNat_lt
  have hb := b.toNat_lt
  have hx : a.toNat ^^^ b.toNat < 2 ^ 32 := Nat.xor_lt_two_pow (by omega) (by omega)
  show IntKind.u32.wrap ((BitVec.ofInt 32 (a.toNat : Int) ^^^ BitVec.ofInt 32 (b.toNat : Int)).toNat : Int) = _
  rw [BitVec.toNat_xor, ofInt32 (by omega), ofInt32 (by omega), IntKind.wrap_u32, UInt32.toNat_xor]
  omega
theorem bits_and_u32 (a b : UInt32) : bits .and .u32 (a.toNat : Int) (b.toNat : Int) = ((a &&& b).toNat : Int) := by
  have ha := a.toNat_lt
  have hb := b.toNat_lt
  have hx : a.toNat &&& b.toNat < 2 ^ 32 := Nat.and_lt_two_pow _ (by omega)
  show IntKind.u32.wrap ((BitVec.ofInt 32 (a.toNat : Int) &&& BitVec.ofInt 32 (b.toNat : Int)).toNat : Int) = _
  rw [BitVec.toNat_and, ofInt32 (by omega), ofInt32 (by omega), IntKind.wrap_u32, UInt32.toNat_and]
  omega
theorem rotr_nat (x : UInt32) (n : Nat) : ((rotr x n).toNat : Int) = ((x.toNat * 2 ^ (32 - n) % 4294967296 ||| x.toNat / 2 ^ n : Nat) : Int) := by
  unfold rotr
  rw [UInt32.toNat_ofNat']
  have hx := x.toNat_lt
  have h2 : x.toNat / 2 ^ n < 2 ^ 32 := Nat.lt_of_le_of_lt (Nat.div_le_self _ _) (by omega)
  have h3 : x.toNat * 2 ^ (32 - n) % 4294967296 ||| x.toNat / 2 ^ n < 2 ^ 32 := Nat.or_lt_two_pow (by omega) h2
  rw [Nat.mod_eq_of_lt h3]
theorem shr_lt (x : UInt32) (n : Nat) : x.toNat / 2 ^ n < 4294967296 := Nat.lt_of_le_of_lt (Nat.div_le_self _ _) (by have := x.toNat_lt; omega)
theorem shr_nat (x : UInt32) (n : Nat) : ((UInt32.ofNat (x.toNat / 2 ^ n)).toNat : Int) = ((x.toNat / 2 ^ n : Nat) : Int) := by
  rw [UInt32.toNat_ofNat', Nat.mod_eq_of_lt (shr_lt x n)]
end Go.Cu
namespace Go.Proofs.YtnakbdgoaepehaaDoor
open Go.RowKit Go.Cu
theorem rot_any (x : UInt32) {k : Int} {m n : Nat} (hmn : m + n = 32) (hs : bits .and .u64 (IntKind.u64.wrap k) 31 = (m : Int)) (w : World) : Calls Tryd.prog 76 #[.int .u32 x.toNat, .int .i64 k] w fun r w' => r = .returned (.int .u32 (rotr x n).toNat) ∧ w = w' := by
  have h1 : (0 : Int) ≤ (m : Int) := by omega
  have h2 : (m : Int) ≤ 32 := by omega
  have HV : bits .or .u32 ((x.toNat : Int) * 2 ^ m % 4294967296) ((x.toNat : Int) / 2 ^ (32 - m)) = ((rotr x n).toNat : Int) := by
    rw [rotr_nat x n, show 32 - n = m by omega, show 32 - m = n by omega]
    have e1 : (x.toNat : Int) * 2 ^ m % 4294967296 = ((x.toNat * 2 ^ m % 4294967296 : Nat) : Int) := by simp
    have e2 : (x.toNat : Int) / 2 ^ n = ((x.toNat / 2 ^ n : Nat) : Int) := by simp
    rw [e1, e2]
    exact bits_or_u32 (Nat.mod_lt _ (by decide)) (shr_lt x n)
  clear hmn
  go_enter Tryd.func76, Tryd.ntmps76
  go_wp2
  go_ret
  exact ⟨rfl, rfl⟩
/-- The turns that a sum uses. -/
def turnsN : List Nat := [6, 11, 25, 2, 13, 22, 7, 18, 17, 19]
theorem turn_any (x : UInt32) {n : Nat} (hn : n ∈ turnsN) (w : World) : Calls Tryd.prog 75 #[.int .u32 x.toNat, .int .i64 n] w fun r w' => r = .returned (.int .u32 (rotr x n).toNat) ∧ w = w' := by
  have HR := hid (show ∀ X, Calls Tryd.prog 76 #[.int .u32 x.toNat, .int .i64 (-(n : Int))] X fun r w' => r = .returned (.int .u32 (rotr x n).toNat) ∧ X = w' from fun X => by
    simp only [turnsN, List.mem_cons, List.not_mem_nil, or_false] at hn
    rcases hn with rfl | rfl | rfl | rfl | rfl | rfl | rfl | rfl | rfl | rfl
    · exact rot_any x (m := 26) rfl (by decide) X
    · exact rot_any x (m := 21) rfl (by decide) X
    · exact rot_any x (m := 7) rfl (by decide) X
    · exact rot_any x (m := 30) rfl (by decide) X
    · exact rot_any x (m := 19) rfl (by decide) X
    · exact rot_any x (m := 10) rfl (by decide) X
    · exact rot_any x (m := 25) rfl (by decide) X
    · exact rot_any x (m := 14) rfl (by decide) X
    · exact rot_any x (m := 15) rfl (by decide) X
    · exact rot_any x (m := 13) rfl (by decide) X)
  have h1 : n ≤ 25 := by
    simp only [turnsN, List.mem_cons, List.not_mem_nil, or_false] at hn
    omega
  clear hn
  go_enter Tryd.func75, Tryd.ntmps75
  go_wp2_with (go_at_call 76; (with_reducible refine (HR.out _).mono ?_); rintro r w1 ⟨rfl, rfl⟩)
  go_ret
  exact ⟨rfl, rfl⟩
theorem big_ok (x : UInt32) {p q r : Nat} (hp : p ∈ turnsN) (hq : q ∈ turnsN) (hr : r ∈ turnsN) {pi qi ri : Int} (ep : pi = p) (eq : qi = q) (er : ri = r) (w : World) :
    Calls Tryd.prog 71 #[.int .u32 x.toNat, .int .i64 pi, .int .i64 qi, .int .i64 ri] w fun v w' => v = .returned (.int .u32 (bigW x p q r).toNat) ∧ w = w' := by
  subst ep eq er
  have HT := hid (fun (n : Nat) (hn : n ∈ turnsN) X => turn_any x hn X)
  have HP := hid hp
  have HQ := hid hq
  have HR := hid hr
  obtain ⟨a, ha⟩ : ∃ a, a = rotr x p ^^^ rotr x q := ⟨_, rfl⟩
  obtain ⟨b, hb⟩ : ∃ b, b = bigW x p q r := ⟨_, rfl⟩
  have X1 : bits .xor .u32 ((rotr x p).toNat : Int) ((rotr x q).toNat : Int) = (a.toNat : Int) := by rw [ha]; exact bits_xor_u32 _ _
  have X2 : bits .xor .u32 (a.toNat : Int) ((rotr x r).toNat : Int) = (b.toNat : Int) := by rw [hb, ha]; exact bits_xor_u32 _ _
  rw [← hb]
  clear hp hq hr ha hb
  go_enter Tryd.func71, Tryd.ntmps71
  go_wp2_with (go_at_call 75; first | ((with_reducible refine (HT.out p HP.out _).mono ?_); rintro v w1 ⟨rfl, rfl⟩) | ((with_reducible refine (HT.out q HQ.out _).mono ?_); rintro v w1 ⟨rfl, rfl⟩) | ((with_reducible refine (HT.out r HR.out _).mono ?_); rintro v w1 ⟨rfl, rfl⟩))
  go_ret
  exact ⟨rfl, rfl⟩
theorem small_ok (x : UInt32) {p q r : Nat} (hp : p ∈ turnsN) (hq : q ∈ turnsN) (hr : r ≤ 20) {pi qi ri : Int} (ep : pi = p) (eq : qi = q) (er : ri = r) (w : World) :
    Calls Tryd.prog 74 #[.int .u32 x.toNat, .int .i64 pi, .int .i64 qi, .int .i64 ri] w fun v w' => v = .returned (.int .u32 (smallW x p q r).toNat) ∧ Below w.heap.size w w' := by
  subst ep eq er
  have HT := hid (fun (n : Nat) (hn : n ∈ turnsN) X => turn_any x hn X)
  have HP := hid hp
  have HQ := hid hq
  have X0 : (x.toNat : Int) / 2 ^ r = ((UInt32.ofNat (x.toNat / 2 ^ r)).toNat : Int) := by rw [shr_nat]; simp
  obtain ⟨a, ha⟩ : ∃ a, a = rotr x p ^^^ rotr x q := ⟨_, rfl⟩
  obtain ⟨b, hb⟩ : ∃ b, b = smallW x p q r := ⟨_, rfl⟩
  obtain ⟨c, hc⟩ : ∃ c, c = UInt32.ofNat (x.toNat / 2 ^ r) := ⟨_, rfl⟩
  rw [← hc] at X0
  have X1 : bits .xor .u32 ((rotr x p).toNat : Int) ((rotr x q).toNat : Int) = (a.toNat : Int) := by rw [ha]; exact bits_xor_u32 _ _
  have X2 : bits .xor .u32 (a.toNat : Int) (c.toNat : Int) = (b.toNat : Int) := by rw [hb, ha, hc]; exact bits_xor_u32 _ _
  rw [← hb]
  clear ha hb hc
  have h1 : (0 : Int) ≤ (r : Int) := by omega
  have h2 : (r : Int) ≤ 32 := by omega
  clear hp hq
  go_enter Tryd.func74, Tryd.ntmps74
  go_wp2_with fail
  refine wp_region_ord [] [(0, 1), (1, 1), (3, 1), (4, 1), (7, 1), (8, 1), (9, 1), (2, 2), (5, 2), (6, 1), (10, 1), (11, 1)] (fun X => X = World.drew w) (by kernel_rfl) (by kernel_rfl) (fun d _ c _ _ h => by cases d <;> exact h) rfl (fun X hXe _ => ?_)
  subst hXe
  repeat (apply wpOrd_class; ((· first | (rw [List.getElem?_toArray, List.getElem?_cons_zero]; done) | (simp only [List.getElem?_toArray, List.getElem?_cons_succ, List.getElem?_cons_zero]; exact rfl))); (· exact rfl); intro K hK; apply Exists.intro; refine And.intro (fun X' hX' => ?_) ?_; (· go_simp; (try go_bits); first | done | exact rfl | exact ⟨rfl, rfl⟩); go_simp; refine hK _ _ ?_; clear hK K)
  (apply wpOrd_comes; ((· first | (rw [List.getElem?_toArray, List.getElem?_cons_zero]; done) | (simp only [List.getElem?_toArray, List.getElem?_cons_succ, List.getElem?_cons_zero]; exact rfl))); intro N hN)
  go_wp2_with (go_at_call 75; (with_reducible refine (HT.out p HP.out _).mono ?_); rintro v w1 ⟨rfl, rfl⟩)
  refine hN _ _ (fun _ => rfl) ?_
  clear hN N
  (apply wpOrd_comes; ((· first | (rw [List.getElem?_toArray, List.getElem?_cons_zero]; done) | (simp only [List.getElem?_toArray, List.getElem?_cons_succ, List.getElem?_cons_zero]; exact rfl))); intro N hN)
  go_wp2_with (go_at_call 75; (with_reducible refine (HT.out q HQ.out _).mono ?_); rintro v w1 ⟨rfl, rfl⟩)
  refine hN _ _ (fun _ => rfl) ?_
  clear hN N
  repeat (apply wpOrd_class; ((· first | (rw [List.getElem?_toArray, List.getElem?_cons_zero]; done) | (simp only [List.getElem?_toArray, List.getElem?_cons_succ, List.getElem?_cons_zero]; exact rfl))); (· exact rfl); intro K hK; apply Exists.intro; refine And.intro (fun X' hX' => ?_) ?_; (· go_simp; (try go_bits); first | done | exact rfl | exact ⟨rfl, rfl⟩); go_simp; refine hK _ _ ?_; clear hK K)
  refine wpOrd_done ?_
  go_wp2_with fail
  go_ret
  exact ⟨rfl, Below.drew (Below.refl _ _)⟩
end Go.Proofs.YtnakbdgoaepehaaDoor
