/- The same bytes are the same. -/
import Derived.Test.YtnakbdgoaepehaaDoorSha5Sum
namespace Go.Proofs.YtnakbdgoaepehaaDoor
open Go.RowKit Go.Cu
section
variable {W0 W : World} {L : List Atm}
set_option maxRecDepth 20000 in
set_option maxHeartbeats 4000000 in
theorem same_st (h : St W0 L W) {A : Option Addr} {n c : Nat} {b : List UInt8} (hn : n = b.length) (hnb : n ≤ 1000000) (hb : ∀ X, St W0 L X → BytesIn X A b) :
    Calls Tryd.prog 23 #[.slice A n c, .slice A n c] W fun x w' => x = .returned (.bool true) ∧ St W0 L w' := by
  have HH := hid h
  have HB := hid hb
  have HN := hid hn
  have OO : bits .or .u8 0 0 = 0 := by decide
  clear h hb hn
  go_enter Tryd.func23, Tryd.ntmps23
  go_wp2_with fail
  go_loopw [5, 6, 7, 15] (fun v _ _ k X => ∃ i : Nat, i ≤ n ∧ k = .int .i64 i ∧ v = .int .u8 0 ∧ Hid (St W0 L X)) (fun _ _ _ k _ => n - (intOf k).toNat)
  case atStart => exact ⟨0, Nat.zero_le _, rfl, rfl, HH⟩
  case round =>
    clear HH
    obtain ⟨i, hi, rfl, rfl, HS⟩ := hrel
    have i0 : (0 : Int) ≤ (i : Int) := by omega
    by_cases hlt : i < n
    · have e1 : (i : Int) < (n : Int) := by omega
      obtain ⟨x, hx⟩ : ∃ x, b[i]? = some x := ⟨_, List.getElem?_eq_getElem (by have := HN.out; omega)⟩
      obtain ⟨g, o, rfl, _, hc⟩ := HB.out _ HS.out i x hx
      have XX : bits .xor .u8 (x.toNat : Int) (x.toNat : Int) = 0 := by
        rw [u8_xor_b]
        simp
      clear hx
      go_wp2_with fail
      go_roundw
      case rel => exact ⟨i + 1, by omega, by go_num, rfl, HS⟩
      case measure => (simp [intOf] <;> omega)
    · have e1 : ¬ (i : Int) < (n : Int) := by omega
      go_wp2_with fail
      go_ret
      exact ⟨rfl, HS.out⟩
end
end Go.Proofs.YtnakbdgoaepehaaDoor
