/- Calls upon what lies in memory now. -/
import Derived.Test.YtnakbdgoaepehaaDoorHmSame
namespace Go.Cu
open Go Go.RowKit
section
variable {X : World} {g : Nat} {t : TypeId} {fr : Nat × Nat} {v v' : Value} {b b' : List UInt8}
theorem part_now {B : Option Addr} {n cb : Nat} (hn : n = b.length) (h1 : n ≤ cb) (h2 : cb ≤ maxLen) (hb : BytesIn X B b) : Part X [] (.slice B n cb) b := by
  subst hn
  exact ⟨B, cb, rfl, h1, h2, fun Y hY => hb.below hY.below⟩
theorem now_cell {cs : Array Value} (hc : X.heap[g]? = some (.cells cs t fr)) {Y : World} (hY : St X [] Y) (i : Nat) : Y.cell? ⟨g, i, none⟩ = cs[i]? := by
  have hg : g < X.heap.size := heap_lt hc
  exact cell_of_row Y g i _ _ _ ((hY.below.block g hg).trans hc)
theorem parts1_now (hc : X.heap[g]? = some (.cells #[v] t fr)) (h : Part X [] v b) : PartsIn X [] (some ⟨g, 0, none⟩) [b] := fun i r hi => by
  match i with
  | i + 1 => cases hi
  | 0 =>
    obtain rfl : b = r := by simpa using hi
    obtain ⟨B, cb, rfl, h2, h3, h4⟩ := h
    exact ⟨g, 0, B, cb, rfl, h2, h3, fun Y hY => ⟨(now_cell hc hY 0).trans rfl, h4 Y hY⟩⟩
theorem parts2_now (hc : X.heap[g]? = some (.cells (#[v] ++ #[v']) t fr)) (h : Part X [] v b) (h' : Part X [] v' b') : PartsIn X [] (some ⟨g, 0, none⟩) [b, b'] := fun i r hi => by
  match i with
  | i + 2 => cases hi
  | 0 =>
    obtain rfl : b = r := by simpa using hi
    obtain ⟨B, cb, rfl, h2, h3, h4⟩ := h
    exact ⟨g, 0, B, cb, rfl, h2, h3, fun Y hY => ⟨(now_cell hc hY 0).trans rfl, h4 Y hY⟩⟩
  | 1 =>
    obtain rfl : b' = r := by simpa using hi
    obtain ⟨B, cb, rfl, h2, h3, h4⟩ := h'
    exact ⟨g, 0, B, cb, rfl, h2, h3, fun Y hY => ⟨(now_cell hc hY 1).trans rfl, h4 Y hY⟩⟩
end
end Go.Cu
namespace Go.Proofs.YtnakbdgoaepehaaDoor
open Go.RowKit Go.Cu
section
variable {X : World}
theorem hof_now (hG : Glob X) {K : Option Addr} {n kc : Nat} {k : List UInt8} (hn : n = k.length) (hk : BytesIn X K k) (hkl : k.length ≤ 64) {A : Option Addr} {m c : Nat} {ps : List (List UInt8)} (hm : m = ps.length) (hp : PartsIn X [] A ps) (hps : ps.length ≤ 1000000) (hl : ps.flatten.length ≤ 100000000000) :
    Calls Tryd.prog 21 #[.slice K n kc, .slice A m c] X fun x w' => x = .returned (.agg (bv (hmacL k ps.flatten))) ∧ Below X.heap.size X w' := by
  subst hn hm
  exact (hof_st (St.start X) hG (fun Y hY => hk.below hY.below) hkl hp hps hl).mono fun e w' h => ⟨h.1, h.2.below⟩
theorem sha_now (hG : Glob X) {A : Option Addr} {m c : Nat} {ps : List (List UInt8)} (hm : m = ps.length) (hp : PartsIn X [] A ps) (hps : ps.length ≤ 1000000) (hl : ps.flatten.length ≤ 1000000000000) :
    Calls Tryd.prog 16 #[.slice A m c] X fun x w' => x = .returned (.agg (bv (sumL ps.flatten))) ∧ Below X.heap.size X w' := by
  subst hm
  exact (sha_st (St.start X) hG hp hps hl).mono fun e w' h => ⟨h.1, h.2.below⟩
end
end Go.Proofs.YtnakbdgoaepehaaDoor
