/- A disk whose blocks are known one by one. No program. -/
import Derived.Test.YthmchbdhikakhaaExtSpec
namespace Go.Cu
structure Flatd (g : List Blk8) (N : Nat) (S : DS) : Prop where
  ok : S.Ok N
  td : S.Tied
  off : S.off = false
  arm : S.armed = 0
  now : S.now = g
theorem Flatd.new {n : Nat} (hn : n ≤ 8192) : Flatd (List.replicate n zeroB) 0 (DS.new n) := ⟨DS.Ok.new hn, DS.Tied.new n, rfl, rfl, rfl⟩
theorem Flatd.write {g : List Blk8} {N : Nat} {S : DS} (h : Flatd g N S) {i : Nat} (hi : i < g.length) {b : Blk8} (hb : b.length = 128) : Flatd (g.set i b) (N + 1) (S.write (i : Int) b).1 ∧ (S.write (i : Int) b).2 = 0 := by
  have hl : i < S.now.length := by rw [h.now]; exact hi
  obtain ⟨w1, _, _, _, w5⟩ := write_in h.off hl b
  obtain ⟨a1, a2⟩ := w5 h.arm
  refine ⟨⟨h.ok.write _ hb, h.td.write _ _, ?_, a2, by rw [w1, h.now]⟩, a1⟩
  rcases (write_in h.off hl b).2.2.2.1 with ⟨_, h2⟩ | ⟨h2, _⟩
  · exact h2
  · rw [a1] at h2; cases h2
theorem Flatd.sync {g : List Blk8} {N : Nat} {S : DS} (h : Flatd g N S) : Flatd g N S.sync.1 ∧ S.sync.2 = 0 ∧ S.sync.1.wait = [] ∧ S.sync.1.last = g := by
  have e : S.sync = (S.settle fun _ => true, 0) := by simp [DS.sync, h.off]
  have e2 : (S.settle fun _ => true).last = S.now := h.td.now.symm
  have e1 : (S.settle fun _ => true).now = S.now := (settle_now h.td h.ok.len _).trans e2
  rw [e]
  exact ⟨⟨h.ok.settle _, h.td.settle h.ok.len _, h.off, h.arm, e1.trans h.now⟩, rfl, rfl, e2.trans h.now⟩
theorem Flatd.cut {g : List Blk8} {N : Nat} {S : DS} (h : Flatd g N S) (hw : S.wait = []) (hl : S.last = g) (p n : Nat) : Cut g p n S :=
  ⟨by rw [h.now], fun i _ => .inl (by rw [h.now]), fun i _ => .inl (by rw [hl]), fun q hq => by rw [hw] at hq; cases hq⟩
theorem crash_off (S : DS) (keep : List Bool) : (S.crash keep).off = false := rfl
theorem crash_arm (S : DS) (keep : List Bool) : (S.crash keep).armed = 0 := rfl
theorem crash_nowait {S : DS} (h : S.wait = []) (keep : List Bool) : (S.crash keep).now = S.now := by
  show nowOf _ S.wait S.now = S.now
  rw [h]
  rfl
theorem crash_len' (S : DS) (keep : List Bool) : (S.crash keep).now.length = S.now.length := nowOf_len _ _ _
/-- All that a zeroing cut off by the power, a crash, and a zeroing once more come to. -/
structure CutTold (g : List Blk8) (n : Nat) (R : DS × Int) (S4 : DS) : Prop where
  dn : (R.2 = 0 ∧ R.1.off = false) ∨ (R.2 = 13 ∧ R.1.off = true)
  now : ∀ i, i < g.length → S4.now.getD i zeroB = g.getD i zeroB ∨ (i < n ∧ S4.now.getD i zeroB = zeroB)
  clear : R.2 = 0 → S4.clear 0 n = true
  again : (S4.zeros n 0).2 = 0 ∧ (S4.zeros n 0).1.off = false ∧ (S4.zeros n 0).1.wait = [] ∧ (S4.zeros n 0).1.clear 0 n = true
theorem cut_told {g : List Blk8} {N n : Nat} {S : DS} (h : Flatd g N S) (hw : S.wait = []) (hl : S.last = g) (hn : n ≤ g.length) (a : Int) (ha : a ≤ 9223372036854775807) (keep : List Bool) :
    CutTold g n ((S.arm a).zeros n 0) (((S.arm a).zeros n 0).1.crash keep) := by
  have hok : (S.arm a).Ok N := h.ok.arm ha
  have hc : Cut g 0 n (S.arm a) := let c := h.cut hw hl 0 n; ⟨c.len, c.now, c.last, c.wait⟩
  obtain ⟨c1, c2, _⟩ := zeros_cut (p := 0) (n := n) (by omega) n 0 (S.arm a) N (by omega) hok (h.td.arm a) hc h.off (fun i hi => absurd hi (by omega))
  simp only [Nat.zero_add] at c1 c2
  have hokR := zeros_ok (n := n) (p := 0) hok
  have htdR := zeros_tied (n := n) (p := 0) hok (h.td.arm a)
  have c4 := c1.crash htdR hokR.len keep
  have hok4 := hokR.crash keep
  have htd4 := htdR.crash hokR.len keep
  obtain ⟨d1, d2, d3⟩ := zeros_cut (p := 0) (n := n) (by omega) n 0 _ _ (by omega) hok4 htd4 c4 (crash_off _ _) (fun i hi => absurd hi (by omega))
  simp only [Nat.zero_add] at d1 d2 d3
  have d3 := d3 (crash_arm _ _)
  refine ⟨?_, fun i hi => ?_, fun h0 => ?_, ?_⟩
  · rcases c2 with ⟨x, y, _⟩ | ⟨x, y⟩
    · exact .inl ⟨x, y⟩
    · exact .inr ⟨x, y⟩
  · rcases c4.now i hi with h1 | ⟨_, h2, h3⟩
    · exact .inl h1
    · exact .inr ⟨by omega, h3⟩
  · rcases c2 with ⟨_, _, x, y⟩ | ⟨x, _⟩
    · rw [clear_iff]
      intro i hi
      rw [crash_nowait x, Nat.zero_add]
      exact y i hi
    · rw [h0] at x; cases x
  · rcases d2 with ⟨x, y, z, u⟩ | ⟨x, _⟩
    · exact ⟨x, y, z, clear_iff.2 fun i hi => by rw [Nat.zero_add]; exact u i hi⟩
    · rw [d3.1] at x; cases x
end Go.Cu
namespace Go.Cu
/-- A zeroing with the power on, and a crash behind it. -/
theorem zero_told {g : List Blk8} {N n p : Nat} {S : DS} (h : Flatd g N S) (hw : S.wait = []) (hl : S.last = g) (hn : p + n ≤ g.length) (keep : List Bool) :
    (S.zeros n p).2 = 0 ∧ (S.zeros n p).1.off = false ∧ (∀ i, i < g.length → ((S.zeros n p).1.crash keep).now.getD i zeroB = if p ≤ i ∧ i < p + n then zeroB else g.getD i zeroB) ∧ ((S.zeros n p).1.crash keep).clear p n = true := by
  obtain ⟨c1, c2, c3⟩ := zeros_cut (p := p) (n := n) hn n 0 S N (by omega) h.ok h.td (h.cut hw hl p n) h.off (fun i hi => absurd hi (by omega))
  simp only [Nat.add_zero] at c1 c2 c3
  have e := (c3 h.arm).1
  rcases c2 with ⟨_, x, y, z⟩ | ⟨x, _⟩
  · have hnow : ((S.zeros n p).1.crash keep).now = (S.zeros n p).1.now := crash_nowait y keep
    refine ⟨e, x, fun i hi => ?_, ?_⟩
    · rw [hnow]
      split
      · rename_i hr
        have := z (i - p) (by omega)
        rwa [show p + (i - p) = i by omega] at this
      · rename_i hr
        rcases c1.now i hi with h1 | ⟨h2, h3, _⟩
        · exact h1
        · exact absurd ⟨h2, h3⟩ hr
    · rw [clear_iff]
      intro i hi
      rw [hnow]
      exact z i hi
  · rw [e] at x; cases x
end Go.Cu
