/- A disk, plainly: what its blocks have now, what lasts, what was written since. No program. -/
namespace Go.Cu
/-- A block's bytes. -/
abbrev Blk8 := List UInt8
def zeroB : Blk8 := List.replicate 128 0
theorem zeroB_len : zeroB.length = 128 := List.length_replicate

structure DS where
  now : List Blk8
  last : List Blk8
  wait : List (Nat × Blk8)
  writes : Int
  armed : Int
  off : Bool

def DS.new (n : Nat) : DS := ⟨List.replicate n zeroB, List.replicate n zeroB, [], 0, 0, false⟩
def DS.may (S : DS) : Int := if S.off then 13 else 0
/-- Is place i answered? -/
def DS.at_ (S : DS) (i : Int) : Int := if S.off then 13 else if i < 0 ∨ (S.now.length : Int) ≤ i then 1 else 0
def DS.put (S : DS) (i : Nat) (b : Blk8) : DS := { S with now := S.now.set i b, wait := S.wait ++ [(i, b)], writes := S.writes + 1 }
/-- Behind a write: the power may go off. -/
def DS.tick (S : DS) : DS × Int :=
  if S.armed = 0 then (S, 0) else if 0 < S.armed - 1 then ({ S with armed := S.armed - 1 }, 0) else ({ S with armed := S.armed - 1, off := true }, 13)
def DS.write (S : DS) (i : Int) (b : Blk8) : DS × Int := if S.at_ i ≠ 0 then (S, S.at_ i) else (S.put i.toNat b).tick
/-- What lasts behind k0, k0 + 1, .. of the writes, those that are kept. -/
def lastOf (kept : Nat → Bool) : Nat → List (Nat × Blk8) → List Blk8 → List Blk8
  | _, [], L => L
  | k, p :: l, L => lastOf kept (k + 1) l (if kept k then L.set p.1 p.2 else L)
/-- What is there behind a settling: of each place that was written what lasts. -/
def nowOf (last : List Blk8) : List (Nat × Blk8) → List Blk8 → List Blk8
  | [], N => N
  | p :: l, N => nowOf last l (N.set p.1 (last.getD p.1 zeroB))
def DS.settle (S : DS) (kept : Nat → Bool) : DS :=
  let L := lastOf kept 0 S.wait S.last
  { S with last := L, now := nowOf L S.wait S.now, wait := [] }
def DS.sync (S : DS) : DS × Int := if S.off then (S, 13) else (S.settle fun _ => true, 0)
def DS.crash (S : DS) (keep : List Bool) : DS := { S.settle (fun k => keep.getD k false) with off := false, armed := 0 }
def DS.arm (S : DS) (n : Int) : DS := { S with armed := max n 0 }

/-- What holds of every disk: no more than N writes wait or were made. -/
structure DS.Ok (S : DS) (N : Nat) : Prop where
  len : S.last.length = S.now.length
  big : S.now.length ≤ 8192
  now : ∀ b ∈ S.now, b.length = 128
  last : ∀ b ∈ S.last, b.length = 128
  wait : ∀ p ∈ S.wait, p.1 < S.now.length ∧ p.2.length = 128
  few : S.wait.length ≤ N
  writes0 : 0 ≤ S.writes
  writes : S.writes ≤ N
  armed0 : 0 ≤ S.armed
  armed : S.armed ≤ 9223372036854775807

theorem lastOf_len (kept : Nat → Bool) : ∀ (l : List (Nat × Blk8)) (k : Nat) (L : List Blk8), (lastOf kept k l L).length = L.length
  | [], _, _ => rfl
  | p :: l, k, L => by
    rw [lastOf, lastOf_len kept l]
    split <;> simp
theorem nowOf_len (last : List Blk8) : ∀ (l : List (Nat × Blk8)) (N : List Blk8), (nowOf last l N).length = N.length
  | [], _ => rfl
  | p :: l, N => by rw [nowOf, nowOf_len last l, List.length_set]
theorem full_set {L : List Blk8} (h : ∀ b ∈ L, b.length = 128) (i : Nat) {b : Blk8} (hb : b.length = 128) : ∀ x ∈ L.set i b, x.length = 128 := by
  intro x hx
  rcases List.mem_or_eq_of_mem_set hx with h1 | h1
  · exact h x h1
  · subst h1; exact hb
theorem full_getD {L : List Blk8} (h : ∀ b ∈ L, b.length = 128) (i : Nat) : (L.getD i zeroB).length = 128 := by
  rw [List.getD_eq_getElem?_getD]
  cases hi : L[i]? with
  | none => exact zeroB_len
  | some b => exact h b (List.mem_of_getElem? hi)
theorem lastOf_full (kept : Nat → Bool) : ∀ (l : List (Nat × Blk8)) (k : Nat) (L : List Blk8), (∀ p ∈ l, p.2.length = 128) → (∀ b ∈ L, b.length = 128) → ∀ b ∈ lastOf kept k l L, b.length = 128
  | [], _, _, _, hL => hL
  | p :: l, k, L, hl, hL => by
    rw [lastOf]
    refine lastOf_full kept l (k + 1) _ (fun q hq => hl q (by simp [hq])) ?_
    split
    · exact full_set hL _ (hl p (by simp))
    · exact hL
theorem nowOf_full (last : List Blk8) (hlast : ∀ b ∈ last, b.length = 128) : ∀ (l : List (Nat × Blk8)) (N : List Blk8), (∀ b ∈ N, b.length = 128) → ∀ b ∈ nowOf last l N, b.length = 128
  | [], _, hN => hN
  | p :: l, N, hN => by
    rw [nowOf]
    exact nowOf_full last hlast l _ (full_set hN _ (full_getD hlast _))

theorem DS.Ok.mono {S : DS} {N M : Nat} (h : S.Ok N) (hm : N ≤ M) : S.Ok M :=
  ⟨h.len, h.big, h.now, h.last, h.wait, Nat.le_trans h.few hm, h.writes0, by have := h.writes; omega, h.armed0, h.armed⟩
theorem DS.Ok.new {n : Nat} (hn : n ≤ 8192) : (DS.new n).Ok 0 :=
  ⟨by simp [DS.new], by simpa [DS.new] using hn, fun b hb => by rw [List.eq_of_mem_replicate hb]; exact zeroB_len, fun b hb => by rw [List.eq_of_mem_replicate hb]; exact zeroB_len, fun p hp => by simp [DS.new] at hp, by simp [DS.new],
    by simp [DS.new], by simp [DS.new], by simp [DS.new], by simp [DS.new]⟩
theorem DS.Ok.settle {S : DS} {N : Nat} (h : S.Ok N) (kept : Nat → Bool) : (S.settle kept).Ok N := by
  have hl := lastOf_full kept S.wait 0 S.last (fun p hp => (h.wait p hp).2) h.last
  refine ⟨?_, ?_, ?_, hl, ?_, ?_, h.writes0, h.writes, h.armed0, h.armed⟩
  · simp only [DS.settle, lastOf_len, nowOf_len]; exact h.len
  · simp only [DS.settle, nowOf_len]; exact h.big
  · exact nowOf_full _ hl _ _ h.now
  · intro p hp; simp [DS.settle] at hp
  · simp [DS.settle]
theorem DS.Ok.put {S : DS} {N : Nat} (h : S.Ok N) {i : Nat} (hi : i < S.now.length) {b : Blk8} (hb : b.length = 128) : (S.put i b).Ok (N + 1) := by
  refine ⟨by simpa [DS.put] using h.len, by simpa [DS.put] using h.big, full_set h.now _ hb, h.last, ?_, ?_, ?_, ?_, h.armed0, h.armed⟩
  · intro p hp
    simp only [DS.put, List.mem_append, List.mem_singleton] at hp
    rcases hp with hp | rfl
    · simpa [DS.put] using h.wait p hp
    · exact ⟨by simpa [DS.put] using hi, hb⟩
  · simp only [DS.put, List.length_append, List.length_singleton]; have := h.few; omega
  · have := h.writes0; simp only [DS.put]; omega
  · have := h.writes; simp only [DS.put]; omega
theorem DS.Ok.tick {S : DS} {N : Nat} (h : S.Ok N) : S.tick.1.Ok N := by
  have h0 := h.armed0
  have h1 := h.armed
  unfold DS.tick
  split
  · exact h
  · split
    · exact ⟨h.len, h.big, h.now, h.last, h.wait, h.few, h.writes0, h.writes, by show 0 ≤ S.armed - 1; omega, by show S.armed - 1 ≤ _; omega⟩
    · rename_i a b
      exact ⟨h.len, h.big, h.now, h.last, h.wait, h.few, h.writes0, h.writes, by show 0 ≤ S.armed - 1; omega, by show S.armed - 1 ≤ _; omega⟩
theorem DS.put_tick0 {S : DS} {n : Nat} {b : Blk8} (h : S.armed = 0) : (S.put n b).tick = (S.put n b, 0) := if_pos h
theorem DS.put_tick1 {S : DS} {n : Nat} {b : Blk8} (h : ¬ S.armed = 0) (h1 : 0 < S.armed - 1) : (S.put n b).tick = ({ S.put n b with armed := S.armed - 1 }, 0) := (if_neg h).trans (if_pos h1)
theorem DS.put_tick2 {S : DS} {n : Nat} {b : Blk8} (h : ¬ S.armed = 0) (h1 : ¬ 0 < S.armed - 1) : (S.put n b).tick = ({ S.put n b with armed := S.armed - 1, off := true }, 13) := (if_neg h).trans (if_neg h1)
theorem DS.at_zero {S : DS} {i : Int} (h : S.at_ i = 0) : S.off = false ∧ 0 ≤ i ∧ i < S.now.length := by
  unfold DS.at_ at h
  cases ho : S.off
  · rw [ho] at h
    simp only [Bool.false_eq_true, if_false] at h
    split at h
    · cases h
    · exact ⟨rfl, by omega, by omega⟩
  · rw [ho] at h; cases h
theorem DS.Ok.write {S : DS} {N : Nat} (h : S.Ok N) (i : Int) {b : Blk8} (hb : b.length = 128) : (S.write i b).1.Ok (N + 1) := by
  unfold DS.write
  split
  · exact h.mono (Nat.le_succ _)
  · rename_i h0
    obtain ⟨_, hz1, hz2⟩ := DS.at_zero (Decidable.not_not.1 h0)
    exact (h.put (by omega) hb).tick
theorem DS.Ok.sync {S : DS} {N : Nat} (h : S.Ok N) : S.sync.1.Ok N := by
  unfold DS.sync
  split
  · exact h
  · exact h.settle _
theorem DS.Ok.crash {S : DS} {N : Nat} (h : S.Ok N) (keep : List Bool) : (S.crash keep).Ok N := by
  have := h.settle fun k => keep.getD k false
  exact ⟨this.len, this.big, this.now, this.last, this.wait, this.few, this.writes0, this.writes, by simp [DS.crash], by simp [DS.crash]⟩
theorem DS.Ok.arm {S : DS} {N : Nat} (h : S.Ok N) {n : Int} (hn : n ≤ 9223372036854775807) : (S.arm n).Ok N :=
  ⟨h.len, h.big, h.now, h.last, h.wait, h.few, h.writes0, h.writes, by simp only [DS.arm]; omega, by simp only [DS.arm]; omega⟩
end Go.Cu
