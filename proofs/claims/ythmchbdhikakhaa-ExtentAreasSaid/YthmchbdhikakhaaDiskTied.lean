/- What is there now is what lasts, with what was written since laid over it: plainly. No program. -/
import Derived.Test.YthmchbdhikakhaaDiskSpec
namespace Go.Cu
theorem lastOf_snocT (kept : Nat → Bool) (p : Nat × Blk8) : ∀ (l : List (Nat × Blk8)) (k : Nat) (L : List Blk8), lastOf kept k (l ++ [p]) L = if kept (k + l.length) then (lastOf kept k l L).set p.1 p.2 else lastOf kept k l L
  | [], k, L => by simp [lastOf]
  | q :: l, k, L => by
    simp only [List.cons_append, lastOf, List.length_cons]
    rw [lastOf_snocT kept p l]
    simp only [Nat.add_assoc, Nat.add_comm 1]
/-- The writes laid over what lasts. -/
def over (l : List (Nat × Blk8)) (L : List Blk8) : List Blk8 := lastOf (fun _ => true) 0 l L
theorem over_nil (L : List Blk8) : over [] L = L := rfl
theorem over_snoc (l : List (Nat × Blk8)) (p : Nat × Blk8) (L : List Blk8) : over (l ++ [p]) L = (over l L).set p.1 p.2 := by
  unfold over; rw [lastOf_snocT]; simp
theorem over_len (l : List (Nat × Blk8)) (L : List Blk8) : (over l L).length = L.length := lastOf_len _ _ _ _
theorem lastOf_other (kept : Nat → Bool) (j : Nat) : ∀ (l : List (Nat × Blk8)) (k : Nat) (L : List Blk8), (∀ p ∈ l, p.1 ≠ j) → (lastOf kept k l L)[j]? = L[j]?
  | [], _, _, _ => rfl
  | p :: l, k, L, h => by
    rw [lastOf, lastOf_other kept j l (k + 1) _ (fun q hq => h q (by simp [hq]))]
    split
    · rw [List.getElem?_set_ne (h p (by simp))]
    · rfl
theorem nowOf_other (M : List Blk8) (j : Nat) : ∀ (l : List (Nat × Blk8)) (N : List Blk8), (∀ p ∈ l, p.1 ≠ j) → (nowOf M l N)[j]? = N[j]?
  | [], _, _ => rfl
  | p :: l, N, h => by
    rw [nowOf, nowOf_other M j l _ (fun q hq => h q (by simp [hq])), List.getElem?_set_ne (h p (by simp))]
theorem nowOf_hit (M : List Blk8) (j : Nat) : ∀ (l : List (Nat × Blk8)) (N : List Blk8), j < N.length → N[j]? = some (M.getD j zeroB) → (nowOf M l N)[j]? = some (M.getD j zeroB)
  | [], _, _, h => h
  | p :: l, N, hj, h => by
    rw [nowOf]
    refine nowOf_hit M j l _ (by simpa using hj) ?_
    by_cases e : p.1 = j
    · rw [e, List.getElem?_set_self hj]
    · rw [List.getElem?_set_ne e, h]
theorem nowOf_in (M : List Blk8) (j : Nat) : ∀ (l : List (Nat × Blk8)) (N : List Blk8), j < N.length → (∃ p ∈ l, p.1 = j) → (nowOf M l N)[j]? = some (M.getD j zeroB)
  | [], _, _, h => by obtain ⟨p, hp, _⟩ := h; cases hp
  | p :: l, N, hj, h => by
    rw [nowOf]
    by_cases e : p.1 = j
    · refine nowOf_hit M j l _ (by simpa using hj) ?_
      rw [e, List.getElem?_set_self hj]
    · refine nowOf_in M j l _ (by simpa using hj) ?_
      obtain ⟨q, hq, he⟩ := h
      rcases List.mem_cons.1 hq with rfl | h2
      · exact absurd he e
      · exact ⟨q, h2, he⟩
structure DS.Tied (S : DS) : Prop where
  now : S.now = over S.wait S.last
theorem DS.Tied.new (n : Nat) : (DS.new n).Tied := ⟨rfl⟩
theorem DS.Tied.put {S : DS} (h : S.Tied) (i : Nat) (b : Blk8) : (S.put i b).Tied := ⟨by simp only [DS.put]; rw [over_snoc, ← h.now]⟩
theorem DS.Tied.tick {S : DS} (h : S.Tied) : S.tick.1.Tied := by
  unfold DS.tick
  split
  · exact h
  · split <;> exact ⟨h.now⟩
theorem DS.Tied.write {S : DS} (h : S.Tied) (i : Int) (b : Blk8) : (S.write i b).1.Tied := by
  unfold DS.write
  split
  · exact h
  · exact (h.put _ _).tick
/-- Behind a settling what is there is what lasts. -/
theorem settle_now {S : DS} (h : S.Tied) (hl : S.last.length = S.now.length) (kept : Nat → Bool) : (S.settle kept).now = (S.settle kept).last := by
  simp only [DS.settle]
  have hlen : (lastOf kept 0 S.wait S.last).length = S.now.length := (lastOf_len _ _ _ _).trans hl
  refine List.ext_getElem? fun j => ?_
  rcases Nat.lt_or_ge j S.now.length with hj | hj
  · by_cases hw : ∃ p ∈ S.wait, p.1 = j
    · rw [nowOf_in _ j _ _ hj hw, List.getD_eq_getElem?_getD, List.getElem?_eq_getElem (by omega)]
      rfl
    · have hw' : ∀ p ∈ S.wait, p.1 ≠ j := fun p hp e => hw ⟨p, hp, e⟩
      rw [nowOf_other _ j _ _ hw', lastOf_other _ j _ _ _ hw', h.now]
      exact lastOf_other _ j _ _ _ hw'
  · rw [List.getElem?_eq_none (by rw [nowOf_len]; exact hj), List.getElem?_eq_none (by omega)]
theorem DS.Tied.settle {S : DS} (h : S.Tied) (hl : S.last.length = S.now.length) (kept : Nat → Bool) : (S.settle kept).Tied := ⟨settle_now h hl kept⟩
theorem DS.Tied.sync {S : DS} (h : S.Tied) (hl : S.last.length = S.now.length) : S.sync.1.Tied := by
  unfold DS.sync
  split
  · exact h
  · exact h.settle hl _
theorem DS.Tied.crash {S : DS} (h : S.Tied) (hl : S.last.length = S.now.length) (keep : List Bool) : (S.crash keep).Tied := ⟨settle_now h hl _⟩
theorem DS.Tied.arm {S : DS} (h : S.Tied) (n : Int) : (S.arm n).Tied := ⟨h.now⟩
/-- The value of a place behind so many of the writes. -/
theorem over_step {l : List (Nat × Blk8)} {k : Nat} {p : Nat × Blk8} (h : l[k]? = some p) (L : List Blk8) (i : Nat) (hi : i < L.length) :
    (over (l.take (k + 1)) L).getD i zeroB = if p.1 = i then p.2 else (over (l.take k) L).getD i zeroB := by
  have e : l.take (k + 1) = l.take k ++ [p] := by rw [List.take_add_one, h]; rfl
  rw [e, over_snoc, List.getD_eq_getElem?_getD, List.getD_eq_getElem?_getD]
  split
  · rename_i e; rw [e, List.getElem?_set_self (by rw [over_len]; exact hi)]; rfl
  · rename_i e; rw [List.getElem?_set_ne e]
end Go.Cu
