/- Words of 64 bits, turned. -/
import Derived.Test.YtnakbdgoaepehaaDoorCodR
namespace Go.Cu
open Go Go.RowKit
/-- A word turned to the right. -/
def rotr64 (x : UInt64) (n : Nat) : UInt64 := UInt64.ofNat (x.toNat * 2 ^ (64 - n) % 18446744073709551616 ||| x.toNat / 2 ^ n)
theorem xor64 (a b : UInt64) : bits .xor .u64 (a.toNat : Int) (b.toNat : Int) = ((a ^^^ b).toNat : Int) := by
  rw [bits_xor_u64_nat _ _ (UInt64.toNat_lt _) (UInt64.toNat_lt _), UInt64.toNat_xor]
theorem and64 (a b : UInt64) : bits .and .u64 (a.toNat : Int) (b.toNat : Int) = ((a &&& b).toNat : Int) := by
  rw [bits_and_u64_nat _ _ (UInt64.toNat_lt _) (UInt64.toNat_lt _), UInt64.toNat_and]
theorem shr64_lt (x : UInt64) (n : Nat) : x.toNat / 2 ^ n < 18446744073709551616 := Nat.lt_of_le_of_lt (Nat.div_le_self _ _) (UInt64.toNat_lt x)
theorem or64_ex {a b : Nat} (ha : a < 18446744073709551616) (hb : b < 18446744073709551616) : bits .or .u64 (a : Int) (b : Int) = ((UInt64.ofNat (a ||| b)).toNat : Int) := by
  rw [bits_or_u64_nat _ _ ha hb, UInt64.toNat_ofNat', Nat.mod_eq_of_lt (Nat.or_lt_two_pow (n := 64) ha hb)]
theorem wrapU (z : Int) : IntKind.u64.wrap z = z % 18446744073709551616 := rfl
theorem add64 (a b : UInt64) : IntKind.u64.wrap ((a.toNat : Int) + (b.toNat : Int)) = ((a + b).toNat : Int) := by
  rw [wrapU, UInt64.toNat_add]
  omega
theorem rot64_val (x : UInt64) {m n : Nat} (hmn : m + n = 64) : bits .or .u64 (IntKind.u64.wrap ((x.toNat : Int) * 2 ^ m)) ((x.toNat : Int) / 2 ^ (64 - m)) = ((rotr64 x n).toNat : Int) := by
  rw [wrapU]
  have e1 : (x.toNat : Int) * 2 ^ m % 18446744073709551616 = ((x.toNat * 2 ^ m % 18446744073709551616 : Nat) : Int) := by simp
  have e2 : (x.toNat : Int) / 2 ^ (64 - m) = ((x.toNat / 2 ^ (64 - m) : Nat) : Int) := by simp
  rw [e1, e2, or64_ex (Nat.mod_lt _ (by decide)) (shr64_lt x _)]
  unfold rotr64
  rw [show 64 - n = m by omega, show 64 - m = n by omega]
end Go.Cu
namespace Go.Proofs.YtnakbdgoaepehaaDoor
open Go.RowKit Go.Cu
theorem rot64_any (x : UInt64) {k : Int} {m n : Nat} (hmn : m + n = 64) (hs : bits .and .u64 (IntKind.u64.wrap k) 63 = (m : Int)) (w : World) : Calls Tryd.prog 72 #[.int .u64 x.toNat, .int .i64 k] w fun r w' => r = .returned (.int .u64 (rotr64 x n).toNat) ∧ w = w' := by
  have h1 : (0 : Int) ≤ (m : Int) := by omega
  have h2 : (m : Int) ≤ 64 := by omega
  have HV := rot64_val x hmn
  clear hmn
  go_enter Tryd.func72, Tryd.ntmps72
  go_wp2
  go_ret
  exact ⟨rfl, rfl⟩
/-- The turns that a sum uses. -/
def turns64 : List Nat := [1, 8, 19, 61, 14, 18, 41, 28, 34, 39]
theorem turn64_any (x : UInt64) {n : Nat} (hn : n ∈ turns64) {ni : Int} (en : ni = n) (w : World) : Calls Tryd.prog 63 #[.int .u64 x.toNat, .int .i64 ni] w fun r w' => r = .returned (.int .u64 (rotr64 x n).toNat) ∧ w = w' := by
  subst en
  have HR := hid (show ∀ X, Calls Tryd.prog 72 #[.int .u64 x.toNat, .int .i64 (-(n : Int))] X fun r w' => r = .returned (.int .u64 (rotr64 x n).toNat) ∧ X = w' from fun X => by
    simp only [turns64, List.mem_cons, List.not_mem_nil, or_false] at hn
    rcases hn with rfl | rfl | rfl | rfl | rfl | rfl | rfl | rfl | rfl | rfl
    · exact rot64_any x (m := 63) rfl (by decide) X
    · exact rot64_any x (m := 56) rfl (by decide) X
    · exact rot64_any x (m := 45) rfl (by decide) X
    · exact rot64_any x (m := 3) rfl (by decide) X
    · exact rot64_any x (m := 50) rfl (by decide) X
    · exact rot64_any x (m := 46) rfl (by decide) X
    · exact rot64_any x (m := 23) rfl (by decide) X
    · exact rot64_any x (m := 36) rfl (by decide) X
    · exact rot64_any x (m := 30) rfl (by decide) X
    · exact rot64_any x (m := 25) rfl (by decide) X)
  have h1 : n ≤ 61 := by
    simp only [turns64, List.mem_cons, List.not_mem_nil, or_false] at hn
    omega
  clear hn
  go_enter Tryd.func63, Tryd.ntmps63
  go_wp2_with (go_at_call 72; (with_reducible refine (HR.out _).mono ?_); rintro r w1 ⟨rfl, rfl⟩)
  go_ret
  exact ⟨rfl, rfl⟩
end Go.Proofs.YtnakbdgoaepehaaDoor
