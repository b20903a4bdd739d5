/- What DiskLasts asks, plainly. -/
import Derived.Test.YthmchbdhikakhaaDiskAny
import Derived.Test.YthmchbdhikakhaaDiskTied
namespace Go.Proofs.Ythmchbdhikakhaa
open Go.RowKit Go.Cu
theorem write_plain {S : DS} (ho : S.off = false) (ha : S.armed = 0) {i : Nat} (hi : i < S.now.length) (b : Bk) : S.write (i : Int) b = (S.put i b, 0) := by
  have hz : S.at_ (i : Int) = 0 := by
    unfold DS.at_
    rw [ho]
    simp only [Bool.false_eq_true, if_false]
    rw [if_neg (by omega)]
  unfold DS.write
  rw [if_neg (by simpa using hz), Int.toNat_natCast]
  exact DS.put_tick0 ha
structure Good1 (first : List UInt8) (k : Nat) (S : DS) : Prop where
  ok : S.Ok k
  td : S.Tied
  off : S.off = false
  arm : S.armed = 0
  len : S.now.length = 8
  now : ∀ i, i < 8 → S.now.getD i zeroB = if i < k then oneB (first.getD i 0) else zeroB
theorem good1_start (first : List UInt8) : Good1 first 0 (DS.new 8) := by
  refine ⟨DS.Ok.new (by decide), DS.Tied.new 8, rfl, rfl, by simp [DS.new], fun i hi => ?_⟩
  rw [if_neg (by omega)]
  show (List.replicate 8 zeroB).getD i zeroB = zeroB
  rw [List.getD_eq_getElem?_getD, List.getElem?_replicate, if_pos hi]
  rfl
theorem good1_step {first : List UInt8} {k : Nat} {S : DS} (h : Good1 first k S) (hk : k < 8) : Good1 first (k + 1) (S.write (k : Int) (oneB (first.getD k 0))).1 := by
  have hl : k < S.now.length := by rw [h.len]; exact hk
  rw [write_plain h.off h.arm hl]
  refine ⟨h.ok.put hl (oneB_len _), h.td.put _ _, h.off, h.arm, by simpa [DS.put] using h.len, fun i hi => ?_⟩
  show (S.now.set k (oneB (first.getD k 0))).getD i zeroB = _
  rw [List.getD_eq_getElem?_getD]
  by_cases e : k = i
  · subst e
    rw [List.getElem?_set_self hl, if_pos (by omega)]
    rfl
  · rw [List.getElem?_set_ne e, ← List.getD_eq_getElem?_getD, h.now i hi]
    by_cases h1 : i < k
    · rw [if_pos h1, if_pos (by omega)]
    · rw [if_neg h1, if_neg (by omega)]
structure Good2 (first : List UInt8) (t : List Bool) (N : Nat) (S : DS) : Prop where
  ok : S.Ok N
  off : S.off = false
  arm : S.armed = 0
  len : S.now.length = 8
  tl : t.length = 8
  wait : ∀ p ∈ S.wait, t.getD p.1 false = true
  now : ∀ i, i < 8 → t.getD i false = false → S.now.getD i zeroB = oneB (first.getD i 0) ∧ S.last.getD i zeroB = oneB (first.getD i 0)
theorem oneB_zero : oneB 0 = zeroB := rfl
theorem good2_start {first : List UInt8} {k : Nat} {S : DS} (h : Good1 first k S) (hk : k = 8 ∨ first.length ≤ k) : Good2 first (List.replicate 8 false) k S.sync.1 ∧ S.sync.2 = 0 := by
  have hall : ∀ i, i < 8 → S.now.getD i zeroB = oneB (first.getD i 0) := fun i hi => by
    rw [h.now i hi]
    by_cases h1 : i < k
    · rw [if_pos h1]
    · rw [if_neg h1, List.getD_eq_getElem?_getD, List.getElem?_eq_none (by omega)]
      rfl
  have e : S.sync = (S.settle fun _ => true, 0) := by simp [DS.sync, h.off]
  rw [e]
  have e1 : (S.settle fun _ => true).now = S.now := (settle_now h.td h.ok.len _).trans (by show lastOf _ 0 S.wait S.last = S.now; exact h.td.now.symm)
  have e2 : (S.settle fun _ => true).last = S.now := h.td.now.symm
  refine ⟨⟨h.ok.settle _, h.off, h.arm, by rw [e1]; exact h.len, by simp, fun p hp => by simp [DS.settle] at hp, fun i hi _ => ⟨by rw [e1]; exact hall i hi, by rw [e2]; exact hall i hi⟩⟩, rfl⟩
theorem good2_step {first : List UInt8} {t : List Bool} {N : Nat} {S : DS} (h : Good2 first t N S) {a : Nat} (ha : a < 8) {b : Bk} (hb : b.length = 128) : Good2 first (t.set a true) (N + 1) (S.write (a : Int) b).1 := by
  have hl : a < S.now.length := by rw [h.len]; exact ha
  have htl := h.tl
  rw [write_plain h.off h.arm hl]
  have hset : ∀ i, (t.set a true).getD i false = true ↔ (i = a ∨ t.getD i false = true) := fun i => by
    rw [List.getD_eq_getElem?_getD, List.getD_eq_getElem?_getD]
    by_cases e : a = i
    · subst e
      rw [List.getElem?_set_self (by omega)]
      simp
    · rw [List.getElem?_set_ne e]
      exact ⟨.inr, fun h => h.elim (fun h => absurd h.symm e) id⟩
  refine ⟨h.ok.put hl hb, h.off, h.arm, by simpa [DS.put] using h.len, by simpa using h.tl, fun p hp => ?_, fun i hi ht => ?_⟩
  · simp only [DS.put, List.mem_append, List.mem_singleton] at hp
    rw [hset]
    rcases hp with hp | rfl
    · exact .inr (h.wait p hp)
    · exact .inl rfl
  · have hne : i ≠ a ∧ t.getD i false = false := by
      have h1 : ¬ (t.set a true).getD i false = true := by rw [ht]; decide
      rw [hset] at h1
      exact ⟨fun e => h1 (.inl e), by
        cases h2 : t.getD i false with
        | false => rfl
        | true => exact absurd (.inr h2) h1⟩
    obtain ⟨h1, h2⟩ := h.now i hi hne.2
    refine ⟨?_, h2⟩
    show (S.now.set a b).getD i zeroB = _
    rw [List.getD_eq_getElem?_getD, List.getElem?_set_ne (Ne.symm hne.1), ← List.getD_eq_getElem?_getD]
    exact h1
theorem good2_crash {first : List UInt8} {t : List Bool} {N : Nat} {S : DS} (h : Good2 first t N S) (keep : List Bool) :
    (S.crash keep).Ok N ∧ ∀ i : Nat, i < 8 → (S.crash keep).at_ i = 0 ∧ (t.getD i false = false → (S.crash keep).now.getD i zeroB = oneB (first.getD i 0)) := by
  refine ⟨h.ok.crash keep, fun i hi => ⟨?_, fun ht => ?_⟩⟩
  · have hl : (S.crash keep).now.length = 8 := (nowOf_len _ _ _).trans h.len
    unfold DS.at_
    rw [show (S.crash keep).off = false from rfl]
    simp only [Bool.false_eq_true, if_false]
    rw [if_neg (by omega)]
  · show (nowOf (lastOf _ 0 S.wait S.last) S.wait S.now).getD i zeroB = _
    rw [List.getD_eq_getElem?_getD, nowOf_other _ i _ _ (fun p hp e => by have := h.wait p hp; rw [e, ht] at this; cases this), ← List.getD_eq_getElem?_getD]
    exact (h.now i hi ht).1
end Go.Proofs.Ythmchbdhikakhaa
