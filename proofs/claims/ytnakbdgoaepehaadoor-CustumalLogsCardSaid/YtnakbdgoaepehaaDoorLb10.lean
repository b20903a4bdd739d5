/- Part 10 of the texts below this law, put together: what each holds is said at its head. -/
import Derived.Test.YtnakbdgoaepehaaDoorLb9
/- What the last walk wants: lengths of what is shown, bytes of a row's element, a number below another. -/
namespace Go.Cu
open Go Go.RowKit
section
variable {N : List UInt8 → List UInt8 → List UInt8} {Z : List UInt8}
theorem incP_all (hN : ∀ a b, (N a b).length = 32) (hZ : Z.length = 32) : ∀ (f : Nat) {s out : List (List UInt8)} {i : Nat}, All32 s → All32 out → All32 (incP N Z f s i out)
  | 0, _, _, _, _, ho => ho
  | f + 1, s, out, i, hs, ho => by
    unfold incP
    split
    · exact ho
    · split
      · exact incP_all hN hZ f (hs.take _) (ho.snoc (totalP_len hN hZ (hs.drop _)))
      · exact incP_all hN hZ f (hs.drop _) (ho.snoc (totalP_len hN hZ (hs.take _)))
theorem conP_all (hN : ∀ a b, (N a b).length = 32) (hZ : Z.length = 32) : ∀ (f : Nat) {s out : List (List UInt8)} {m : Nat} {b : Bool}, All32 s → All32 out → All32 (conP N Z f s m b out).1 ∧ All32 (conP N Z f s m b out).2.1
  | 0, _, _, _, _, hs, ho => ⟨ho, hs⟩
  | f + 1, s, out, m, b, hs, ho => by
    unfold conP
    split
    · exact ⟨ho, hs⟩
    · split
      · exact conP_all hN hZ f (hs.take _) (ho.snoc (totalP_len hN hZ (hs.drop _)))
      · exact conP_all hN hZ f (hs.drop _) (ho.snoc (totalP_len hN hZ (hs.take _)))
theorem All32.reverse {s : List (List UInt8)} (h : All32 s) : All32 s.reverse := fun x hx => h x (List.mem_reverse.1 hx)
theorem conOut_all (hN : ∀ a b, (N a b).length = 32) (hZ : Z.length = 32) {r : List (List UInt8) × List (List UInt8) × Bool} (h : All32 r.1 ∧ All32 r.2.1) : All32 (conOut N Z r) := by
  unfold conOut
  split
  · exact h.1.reverse
  · exact (h.1.snoc (totalP_len hN hZ h.2)).reverse
end
theorem inc_all {f i : Nat} {s : List (List UInt8)} (h : All32 s) : All32 (incP nodeL nilL f s i []).reverse := (incP_all nodeL_len nilL_len f h (fun x hx => by cases hx)).reverse
theorem con_all {f m : Nat} {s : List (List UInt8)} (h : All32 s) : All32 (conOut nodeL nilL (conP nodeL nilL f s m true [])) := conOut_all nodeL_len nilL_len (conP_all nodeL_len nilL_len f h (fun x hx => by cases hx))
theorem u64_rem (n : Int) (d : Nat) (hd : 0 < d) : ∃ m : Nat, (IntKind.u64.wrap n).tmod d = m ∧ m < d := by
  have h0 : 0 ≤ IntKind.u64.wrap n := by simp [IntKind.wrap, IntKind.signed, IntKind.bits]; omega
  rw [Int.tmod_eq_emod_of_nonneg h0]
  have h1 := Int.emod_nonneg (IntKind.u64.wrap n) (show (d : Int) ≠ 0 by omega)
  have h2 := Int.emod_lt_of_pos (IntKind.u64.wrap n) (show (0 : Int) < d by omega)
  exact ⟨(IntKind.u64.wrap n % d).toNat, by omega, by omega⟩
/-- The bytes of a row's element. -/
theorem row_part {W0 W : World} {L : List Atm} {A : Option Addr} {e n c : Nat} {ss : List (List UInt8)} (h : St W0 (Row (.slice A n c) e 32 n (sumsV ss) :: L) W) (ha : All32 ss) {i : Nat} {s : List UInt8} (hi : ss[i]? = some s) : ∃ g, A = some ⟨g, 0, none⟩ ∧ BytesIn W (some ⟨g, i * 32, none⟩) s := by
  obtain ⟨g, hA, hc⟩ := erow_cell h ha.len (by decide) hi
  refine ⟨g, hA, fun j b hj => ⟨g, i * 32, rfl, ?_, ?_⟩⟩
  · rcases h.row.2 with ⟨_, h1⟩ | ⟨g', cap, cur, hv', _, hb, _⟩
    · have hl := h.row.1
      have := (List.getElem?_eq_some_iff.1 hi).1
      have h3 : (sumsV ss).length = ss.length * 32 := sumsV_len ha
      omega
    · cases hv'
      cases hA
      exact heap_lt hb
  · have hk : s.length = 32 := ha s (List.mem_of_getElem? hi)
    have hjl := (List.getElem?_eq_some_iff.1 hj).1
    rw [hc j (by omega) _ rfl]
    unfold bvL
    rw [List.getElem?_map, hj]
    rfl
def entsL (rs : List (List UInt8)) : List (List UInt8) := rs.map entL
theorem entsL_all (rs : List (List UInt8)) : All32 (entsL rs) := fun x hx => by
  obtain ⟨r, _, rfl⟩ := List.mem_map.1 hx
  exact entL_len r
theorem entsL_len (rs : List (List UInt8)) : (entsL rs).length = rs.length := List.length_map ..
theorem entsL_snoc (rs : List (List UInt8)) (r : List UInt8) : entsL (rs ++ [r]) = entsL rs ++ [entL r] := by simp [entsL]
theorem entsL_get {rs : List (List UInt8)} {i : Nat} {r : List UInt8} (h : rs[i]? = some r) : (entsL rs)[i]? = some (entL r) := by
  unfold entsL
  rw [List.getElem?_map, h]
  rfl
end Go.Cu
namespace Go.Proofs.YtnakbdgoaepehaaDoor
open Go.RowKit Go.Cu
theorem ckC_now {w : World} (hG : Glob w) {A : Option Addr} {q c m n a : Nat} {old root : List UInt8} {ps : List (List UInt8)} (hin : SumsAt w A ps) (ha : All32 ps) (hq : q = ps.length) (h10 : q ≤ 10) (hc : q ≤ c) (ho : old.length = 32) (hr : root.length = 32) (h1 : 1 ≤ m) (hm : m < n) (h8 : n ≤ 8) (hck : conCk nodeL m n old ps = some ((a, 0), old, root)) :
    Calls Tryd.prog 29 #[.int .i64 m, .int .i64 n, .slice A q c, .agg (bv old), .agg (bv root)] w fun r w' => r = .returned (.int .i64 0) ∧ Below w.heap.size w w' := by
  by_cases hpw : powerP m = true
  · exact ckC_P hG hin ha hq h10 hc ho hr h1 hm h8 hpw hck
  · exact ckC_N hG hin ha hq h10 hc ho hr h1 hm h8 hpw hck
end Go.Proofs.YtnakbdgoaepehaaDoor
