/- Part 1 of the texts below this law, put together: what each holds is said at its head. -/
import Derived.WalkKit
import Derived.WalkSpells
import Derived.WalkLawsBesides
import Derived.BigQuiet
import Derived.Deep.QuietTactic
import Derived.Maps.AppendAt
import Derived.ProofKit
import Derived.OpenShut
import Derived.Deep.Slices
import Derived.StillTail
import Derived.Test.YthmchbdhikakhaaDoorProg
import Derived.Lib.BytesEntry
import Derived.Lib.Bytealg
import Derived.Lib.BitFns
import Derived.ChangeKeysEq
/- A disk, plainly: what its blocks have now, what lasts, what was written since. No program. -/
namespace Go.Cu
/-- A block's bytes. -/
abbrev Blk8 := List UInt8
def zeroB : Blk8 := List.replicate 128 0
theorem zeroB_len : zeroB.length = 128 := List.length_replicate

structure DS where
  now : List Blk8
  last : List Blk8
  wait : List (Nat × Blk8)
  writes : Int
  armed : Int
  off : Bool

def DS.new (n : Nat) : DS := ⟨List.replicate n zeroB, List.replicate n zeroB, [], 0, 0, false⟩
def DS.may (S : DS) : Int := if S.off then 13 else 0
/-- Is place i answered? -/
def DS.at_ (S : DS) (i : Int) : Int := if S.off then 13 else if i < 0 ∨ (S.now.length : Int) ≤ i then 1 else 0
def DS.put (S : DS) (i : Nat) (b : Blk8) : DS := { S with now := S.now.set i b, wait := S.wait ++ [(i, b)], writes := S.writes + 1 }
/-- Behind a write: the power may go off. -/
def DS.tick (S : DS) : DS × Int :=
  if S.armed = 0 then (S, 0) else if 0 < S.armed - 1 then ({ S with armed := S.armed - 1 }, 0) else ({ S with armed := S.armed - 1, off := true }, 13)
def DS.write (S : DS) (i : Int) (b : Blk8) : DS × Int := if S.at_ i ≠ 0 then (S, S.at_ i) else (S.put i.toNat b).tick
/-- What lasts behind k0, k0 + 1, .. of the writes, those that are kept. -/
def lastOf (kept : Nat → Bool) : Nat → List (Nat × Blk8) → List Blk8 → List Blk8
  | _, [], L => L
  | k, p :: l, L => lastOf kept (k + 1) l (if kept k then L.set p.1 p.2 else L)
/-- What is there behind a settling: of each place that was written what lasts. -/
def nowOf (last : List Blk8) : List (Nat × Blk8) → List Blk8 → List Blk8
  | [], N => N
  | p :: l, N => nowOf last l (N.set p.1 (last.getD p.1 zeroB))
def DS.settle (S : DS) (kept : Nat → Bool) : DS :=
  let L := lastOf kept 0 S.wait S.last
  { S with last := L, now := nowOf L S.wait S.now, wait := [] }
def DS.sync (S : DS) : DS × Int := if S.off then (S, 13) else (S.settle fun _ => true, 0)
def DS.crash (S : DS) (keep : List Bool) : DS := { S.settle (fun k => keep.getD k false) with off := false, armed := 0 }
def DS.arm (S : DS) (n : Int) : DS := { S with armed := max n 0 }

/-- What holds of every disk: no more than N writes wait or were made. -/
structure DS.Ok (S : DS) (N : Nat) : Prop where
  len : S.last.length = S.now.length
  big : S.now.length ≤ 8192
  now : ∀ b ∈ S.now, b.length = 128
  last : ∀ b ∈ S.last, b.length = 128
  wait : ∀ p ∈ S.wait, p.1 < S.now.length ∧ p.2.length = 128
  few : S.wait.length ≤ N
  writes0 : 0 ≤ S.writes
  writes : S.writes ≤ N
  armed0 : 0 ≤ S.armed
  armed : S.armed ≤ 9223372036854775807

theorem lastOf_len (kept : Nat → Bool) : ∀ (l : List (Nat × Blk8)) (k : Nat) (L : List Blk8), (lastOf kept k l L).length = L.length
  | [], _, _ => rfl
  | p :: l, k, L => by
    rw [lastOf, lastOf_len kept l]
    split <;> simp
theorem nowOf_len (last : List Blk8) : ∀ (l : List (Nat × Blk8)) (N : List Blk8), (nowOf last l N).length = N.length
  | [], _ => rfl
  | p :: l, N => by rw [nowOf, nowOf_len last l, List.length_set]
theorem full_set {L : List Blk8} (h : ∀ b ∈ L, b.length = 128) (i : Nat) {b : Blk8} (hb : b.length = 128) : ∀ x ∈ L.set i b, x.length = 128 := by
  intro x hx
  rcases List.mem_or_eq_of_mem_set hx with h1 | h1
  · exact h x h1
  · subst h1; exact hb
theorem full_getD {L : List Blk8} (h : ∀ b ∈ L, b.length = 128) (i : Nat) : (L.getD i zeroB).length = 128 := by
  rw [List.getD_eq_getElem?_getD]
  cases hi : L[i]? with
  | none => exact zeroB_len
  | some b => exact h b (List.mem_of_getElem? hi)
theorem lastOf_full (kept : Nat → Bool) : ∀ (l : List (Nat × Blk8)) (k : Nat) (L : List Blk8), (∀ p ∈ l, p.2.length = 128) → (∀ b ∈ L, b.length = 128) → ∀ b ∈ lastOf kept k l L, b.length = 128
  | [], _, _, _, hL => hL
  | p :: l, k, L, hl, hL => by
    rw [lastOf]
    refine lastOf_full kept l (k + 1) _ (fun q hq => hl q (by simp [hq])) ?_
    split
    · exact full_set hL _ (hl p (by simp))
    · exact hL
theorem nowOf_full (last : List Blk8) (hlast : ∀ b ∈ last, b.length = 128) : ∀ (l : List (Nat × Blk8)) (N : List Blk8), (∀ b ∈ N, b.length = 128) → ∀ b ∈ nowOf last l N, b.length = 128
  | [], _, hN => hN
  | p :: l, N, hN => by
    rw [nowOf]
    exact nowOf_full last hlast l _ (full_set hN _ (full_getD hlast _))

theorem DS.Ok.mono {S : DS} {N M : Nat} (h : S.Ok N) (hm : N ≤ M) : S.Ok M :=
  ⟨h.len, h.big, h.now, h.last, h.wait, Nat.le_trans h.few hm, h.writes0, by have := h.writes; omega, h.armed0, h.armed⟩
theorem DS.Ok.new {n : Nat} (hn : n ≤ 8192) : (DS.new n).Ok 0 :=
  ⟨by simp [DS.new], by simpa [DS.new] using hn, fun b hb => by rw [List.eq_of_mem_replicate hb]; exact zeroB_len, fun b hb => by rw [List.eq_of_mem_replicate hb]; exact zeroB_len, fun p hp => by simp [DS.new] at hp, by simp [DS.new],
    by simp [DS.new], by simp [DS.new], by simp [DS.new], by simp [DS.new]⟩
theorem DS.Ok.settle {S : DS} {N : Nat} (h : S.Ok N) (kept : Nat → Bool) : (S.settle kept).Ok N := by
  have hl := lastOf_full kept S.wait 0 S.last (fun p hp => (h.wait p hp).2) h.last
  refine ⟨?_, ?_, ?_, hl, ?_, ?_, h.writes0, h.writes, h.armed0, h.armed⟩
  · simp only [DS.settle, lastOf_len, nowOf_len]; exact h.len
  · simp only [DS.settle, nowOf_len]; exact h.big
  · exact nowOf_full _ hl _ _ h.now
  · intro p hp; simp [DS.settle] at hp
  · simp [DS.settle]
theorem DS.Ok.put {S : DS} {N : Nat} (h : S.Ok N) {i : Nat} (hi : i < S.now.length) {b : Blk8} (hb : b.length = 128) : (S.put i b).Ok (N + 1) := by
  refine ⟨by simpa [DS.put] using h.len, by simpa [DS.put] using h.big, full_set h.now _ hb, h.last, ?_, ?_, ?_, ?_, h.armed0, h.armed⟩
  · intro p hp
    simp only [DS.put, List.mem_append, List.mem_singleton] at hp
    rcases hp with hp | rfl
    · simpa [DS.put] using h.wait p hp
    · exact ⟨by simpa [DS.put] using hi, hb⟩
  · simp only [DS.put, List.length_append, List.length_singleton]; have := h.few; omega
  · have := h.writes0; simp only [DS.put]; omega
  · have := h.writes; simp only [DS.put]; omega
theorem DS.Ok.tick {S : DS} {N : Nat} (h : S.Ok N) : S.tick.1.Ok N := by
  have h0 := h.armed0
  have h1 := h.armed
  unfold DS.tick
  split
  · exact h
  · split
    · exact ⟨h.len, h.big, h.now, h.last, h.wait, h.few, h.writes0, h.writes, by show 0 ≤ S.armed - 1; omega, by show S.armed - 1 ≤ _; omega⟩
    · rename_i a b
      exact ⟨h.len, h.big, h.now, h.last, h.wait, h.few, h.writes0, h.writes, by show 0 ≤ S.armed - 1; omega, by show S.armed - 1 ≤ _; omega⟩
theorem DS.put_tick0 {S : DS} {n : Nat} {b : Blk8} (h : S.armed = 0) : (S.put n b).tick = (S.put n b, 0) := if_pos h
theorem DS.put_tick1 {S : DS} {n : Nat} {b : Blk8} (h : ¬ S.armed = 0) (h1 : 0 < S.armed - 1) : (S.put n b).tick = ({ S.put n b with armed := S.armed - 1 }, 0) := (if_neg h).trans (if_pos h1)
theorem DS.put_tick2 {S : DS} {n : Nat} {b : Blk8} (h : ¬ S.armed = 0) (h1 : ¬ 0 < S.armed - 1) : (S.put n b).tick = ({ S.put n b with armed := S.armed - 1, off := true }, 13) := (if_neg h).trans (if_neg h1)
theorem DS.at_zero {S : DS} {i : Int} (h : S.at_ i = 0) : S.off = false ∧ 0 ≤ i ∧ i < S.now.length := by
  unfold DS.at_ at h
  cases ho : S.off
  · rw [ho] at h
    simp only [Bool.false_eq_true, if_false] at h
    split at h
    · cases h
    · exact ⟨rfl, by omega, by omega⟩
  · rw [ho] at h; cases h
theorem DS.Ok.write {S : DS} {N : Nat} (h : S.Ok N) (i : Int) {b : Blk8} (hb : b.length = 128) : (S.write i b).1.Ok (N + 1) := by
  unfold DS.write
  split
  · exact h.mono (Nat.le_succ _)
  · rename_i h0
    obtain ⟨_, hz1, hz2⟩ := DS.at_zero (Decidable.not_not.1 h0)
    exact (h.put (by omega) hb).tick
theorem DS.Ok.sync {S : DS} {N : Nat} (h : S.Ok N) : S.sync.1.Ok N := by
  unfold DS.sync
  split
  · exact h
  · exact h.settle _
theorem DS.Ok.crash {S : DS} {N : Nat} (h : S.Ok N) (keep : List Bool) : (S.crash keep).Ok N := by
  have := h.settle fun k => keep.getD k false
  exact ⟨this.len, this.big, this.now, this.last, this.wait, this.few, this.writes0, this.writes, by simp [DS.crash], by simp [DS.crash]⟩
theorem DS.Ok.arm {S : DS} {N : Nat} (h : S.Ok N) {n : Int} (hn : n ≤ 9223372036854775807) : (S.arm n).Ok N :=
  ⟨h.len, h.big, h.now, h.last, h.wait, h.few, h.writes0, h.writes, by simp only [DS.arm]; omega, by simp only [DS.arm]; omega⟩
end Go.Cu
/- What is there now is what lasts, with what was written since laid over it: plainly. No program. -/
namespace Go.Cu
theorem lastOf_snocT (kept : Nat → Bool) (p : Nat × Blk8) : ∀ (l : List (Nat × Blk8)) (k : Nat) (L : List Blk8), lastOf kept k (l ++ [p]) L = if kept (k + l.length) then (lastOf kept k l L).set p.1 p.2 else lastOf kept k l L
  | [], k, L => by simp [lastOf]
  | q :: l, k, L => by
    simp only [List.cons_append, lastOf, List.length_cons]
    rw [lastOf_snocT kept p l]
    simp only [Nat.add_assoc, Nat.add_comm 1]
/-- The writes laid over what lasts. -/
def over (l : List (Nat × Blk8)) (L : List Blk8) : List Blk8 := lastOf (fun _ => true) 0 l L
theorem over_nil (L : List Blk8) : over [] L = L := rfl
theorem over_snoc (l : List (Nat × Blk8)) (p : Nat × Blk8) (L : List Blk8) : over (l ++ [p]) L = (over l L).set p.1 p.2 := by
  unfold over; rw [lastOf_snocT]; simp
theorem over_len (l : List (Nat × Blk8)) (L : List Blk8) : (over l L).length = L.length := lastOf_len _ _ _ _
theorem lastOf_other (kept : Nat → Bool) (j : Nat) : ∀ (l : List (Nat × Blk8)) (k : Nat) (L : List Blk8), (∀ p ∈ l, p.1 ≠ j) → (lastOf kept k l L)[j]? = L[j]?
  | [], _, _, _ => rfl
  | p :: l, k, L, h => by
    rw [lastOf, lastOf_other kept j l (k + 1) _ (fun q hq => h q (by simp [hq]))]
    split
    · rw [List.getElem?_set_ne (h p (by simp))]
    · rfl
theorem nowOf_other (M : List Blk8) (j : Nat) : ∀ (l : List (Nat × Blk8)) (N : List Blk8), (∀ p ∈ l, p.1 ≠ j) → (nowOf M l N)[j]? = N[j]?
  | [], _, _ => rfl
  | p :: l, N, h => by
    rw [nowOf, nowOf_other M j l _ (fun q hq => h q (by simp [hq])), List.getElem?_set_ne (h p (by simp))]
theorem nowOf_hit (M : List Blk8) (j : Nat) : ∀ (l : List (Nat × Blk8)) (N : List Blk8), j < N.length → N[j]? = some (M.getD j zeroB) → (nowOf M l N)[j]? = some (M.getD j zeroB)
  | [], _, _, h => h
  | p :: l, N, hj, h => by
    rw [nowOf]
    refine nowOf_hit M j l _ (by simpa using hj) ?_
    by_cases e : p.1 = j
    · rw [e, List.getElem?_set_self hj]
    · rw [List.getElem?_set_ne e, h]
theorem nowOf_in (M : List Blk8) (j : Nat) : ∀ (l : List (Nat × Blk8)) (N : List Blk8), j < N.length → (∃ p ∈ l, p.1 = j) → (nowOf M l N)[j]? = some (M.getD j zeroB)
  | [], _, _, h => by obtain ⟨p, hp, _⟩ := h; cases hp
  | p :: l, N, hj, h => by
    rw [nowOf]
    by_cases e : p.1 = j
    · refine nowOf_hit M j l _ (by simpa using hj) ?_
      rw [e, List.getElem?_set_self hj]
    · refine nowOf_in M j l _ (by simpa using hj) ?_
      obtain ⟨q, hq, he⟩ := h
      rcases List.mem_cons.1 hq with rfl | h2
      · exact absurd he e
      · exact ⟨q, h2, he⟩
structure DS.Tied (S : DS) : Prop where
  now : S.now = over S.wait S.last
theorem DS.Tied.new (n : Nat) : (DS.new n).Tied := ⟨rfl⟩
theorem DS.Tied.put {S : DS} (h : S.Tied) (i : Nat) (b : Blk8) : (S.put i b).Tied := ⟨by simp only [DS.put]; rw [over_snoc, ← h.now]⟩
theorem DS.Tied.tick {S : DS} (h : S.Tied) : S.tick.1.Tied := by
  unfold DS.tick
  split
  · exact h
  · split <;> exact ⟨h.now⟩
theorem DS.Tied.write {S : DS} (h : S.Tied) (i : Int) (b : Blk8) : (S.write i b).1.Tied := by
  unfold DS.write
  split
  · exact h
  · exact (h.put _ _).tick
/-- Behind a settling what is there is what lasts. -/
theorem settle_now {S : DS} (h : S.Tied) (hl : S.last.length = S.now.length) (kept : Nat → Bool) : (S.settle kept).now = (S.settle kept).last := by
  simp only [DS.settle]
  have hlen : (lastOf kept 0 S.wait S.last).length = S.now.length := (lastOf_len _ _ _ _).trans hl
  refine List.ext_getElem? fun j => ?_
  rcases Nat.lt_or_ge j S.now.length with hj | hj
  · by_cases hw : ∃ p ∈ S.wait, p.1 = j
    · rw [nowOf_in _ j _ _ hj hw, List.getD_eq_getElem?_getD, List.getElem?_eq_getElem (by omega)]
      rfl
    · have hw' : ∀ p ∈ S.wait, p.1 ≠ j := fun p hp e => hw ⟨p, hp, e⟩
      rw [nowOf_other _ j _ _ hw', lastOf_other _ j _ _ _ hw', h.now]
      exact lastOf_other _ j _ _ _ hw'
  · rw [List.getElem?_eq_none (by rw [nowOf_len]; exact hj), List.getElem?_eq_none (by omega)]
theorem DS.Tied.settle {S : DS} (h : S.Tied) (hl : S.last.length = S.now.length) (kept : Nat → Bool) : (S.settle kept).Tied := ⟨settle_now h hl kept⟩
theorem DS.Tied.sync {S : DS} (h : S.Tied) (hl : S.last.length = S.now.length) : S.sync.1.Tied := by
  unfold DS.sync
  split
  · exact h
  · exact h.settle hl _
theorem DS.Tied.crash {S : DS} (h : S.Tied) (hl : S.last.length = S.now.length) (keep : List Bool) : (S.crash keep).Tied := ⟨settle_now h hl _⟩
theorem DS.Tied.arm {S : DS} (h : S.Tied) (n : Int) : (S.arm n).Tied := ⟨h.now⟩
/-- The value of a place behind so many of the writes. -/
theorem over_step {l : List (Nat × Blk8)} {k : Nat} {p : Nat × Blk8} (h : l[k]? = some p) (L : List Blk8) (i : Nat) (hi : i < L.length) :
    (over (l.take (k + 1)) L).getD i zeroB = if p.1 = i then p.2 else (over (l.take k) L).getD i zeroB := by
  have e : l.take (k + 1) = l.take k ++ [p] := by rw [List.take_add_one, h]; rfl
  rw [e, over_snoc, List.getD_eq_getElem?_getD, List.getD_eq_getElem?_getD]
  split
  · rename_i e; rw [e, List.getElem?_set_self (by rw [over_len]; exact hi)]; rfl
  · rename_i e; rw [List.getElem?_set_ne e]
end Go.Cu
/- Extents over a disk, plainly. No program. -/
namespace Go.Cu
structure Ex where
  first : Nat
  count : Nat
  size : Nat
structure Ex.Ok (e : Ex) (n : Nat) : Prop where
  c1 : 1 ≤ e.count
  s1 : 1 ≤ e.size
  c2 : e.count ≤ n
  s2 : e.size ≤ n
  fits : e.first + e.count * e.size ≤ n
  big : n ≤ 8192
theorem Ex.Ok.within {e : Ex} {n : Nat} (h : e.Ok n) {i : Nat} (hi : i < e.count) : e.first + i * e.size + e.size ≤ n := by
  have h1 := h.fits
  have h2 : (i + 1) * e.size ≤ e.count * e.size := Nat.mul_le_mul_right _ hi
  rw [Nat.succ_mul] at h2
  omega
def Ex.of (e : Ex) (b : Int) : Int := if b < e.first ∨ (e.first : Int) + (e.count * e.size : Nat) ≤ b then -1 else (b - e.first) / e.size

/-- One block: noughts are written there, unless it is of noughts. -/
def DS.zstep (S : DS) (p : Nat) : DS × Int := if S.at_ p ≠ 0 then (S, S.at_ p) else if S.now.getD p zeroB = zeroB then (S, 0) else S.write p zeroB
def DS.zeros : Nat → Nat → DS → DS × Int
  | 0, _, S => S.sync
  | n + 1, p, S => if (S.zstep p).2 ≠ 0 then S.zstep p else DS.zeros n (p + 1) (S.zstep p).1
def DS.clear (S : DS) (p n : Nat) : Bool := (List.range n).all fun i => S.now.getD (p + i) zeroB == zeroB
theorem clear_iff {S : DS} {p n : Nat} : S.clear p n = true ↔ ∀ i, i < n → S.now.getD (p + i) zeroB = zeroB := by
  simp [DS.clear]

theorem write_len' (S : DS) (i : Int) (b : Blk8) : (S.write i b).1.now.length = S.now.length := by
  unfold DS.write
  split
  · rfl
  · unfold DS.tick
    split
    · simp [DS.put]
    · split <;> simp [DS.put]
theorem zstep_len (S : DS) (p : Nat) : (S.zstep p).1.now.length = S.now.length := by
  unfold DS.zstep
  split
  · rfl
  · split
    · rfl
    · exact write_len' _ _ _
theorem zstep_ok {S : DS} {N : Nat} (h : S.Ok N) (p : Nat) : (S.zstep p).1.Ok (N + 1) := by
  unfold DS.zstep
  split
  · exact h.mono (Nat.le_succ _)
  · split
    · exact h.mono (Nat.le_succ _)
    · exact h.write _ zeroB_len
theorem zstep_tied {S : DS} (h : S.Tied) (p : Nat) : (S.zstep p).1.Tied := by
  unfold DS.zstep
  split
  · exact h
  · split
    · exact h
    · exact h.write _ _
theorem zeros_ok : ∀ {n p : Nat} {S : DS} {N : Nat}, S.Ok N → (S.zeros n p).1.Ok (N + n)
  | 0, _, _, _, h => h.sync
  | n + 1, p, S, N, h => by
    unfold DS.zeros
    split
    · exact (zstep_ok h p).mono (by omega)
    · exact (zeros_ok (zstep_ok h p)).mono (by omega)
theorem sync_len' (S : DS) : S.sync.1.now.length = S.now.length := by
  unfold DS.sync
  split
  · rfl
  · exact nowOf_len _ _ _
theorem zeros_len : ∀ (n p : Nat) (S : DS), (S.zeros n p).1.now.length = S.now.length
  | 0, _, S => sync_len' S
  | n + 1, p, S => by
    unfold DS.zeros
    split
    · exact zstep_len _ _
    · rw [zeros_len n, zstep_len]
theorem zeros_tied : ∀ {n p : Nat} {S : DS} {N : Nat}, S.Ok N → S.Tied → (S.zeros n p).1.Tied
  | 0, _, _, _, h, ht => ht.sync h.len
  | n + 1, p, S, N, h, ht => by
    unfold DS.zeros
    split
    · exact zstep_tied ht p
    · exact zeros_tied (zstep_ok h p) (zstep_tied ht p)

theorem at_in {S : DS} {p : Nat} (hp : p < S.now.length) : S.at_ p = if S.off then 13 else 0 := by
  unfold DS.at_
  cases S.off
  · simp only [Bool.false_eq_true, if_false]
    rw [if_neg (by omega)]
  · rfl
/-- What a write does that is answered or falls. -/
theorem write_in {S : DS} (ho : S.off = false) {p : Nat} (hp : p < S.now.length) (b : Blk8) :
    (S.write p b).1.now = S.now.set p b ∧ (S.write p b).1.last = S.last ∧ (S.write p b).1.wait = S.wait ++ [(p, b)] ∧
      (((S.write p b).2 = 0 ∧ (S.write p b).1.off = false) ∨ ((S.write p b).2 = 13 ∧ (S.write p b).1.off = true)) ∧ (S.armed = 0 → (S.write p b).2 = 0 ∧ (S.write p b).1.armed = 0) := by
  have hz : S.at_ (p : Int) = 0 := by rw [at_in hp, ho]; rfl
  have e : S.write (p : Int) b = (S.put p b).tick := by unfold DS.write; rw [if_neg (by simpa using hz)]; simp
  rw [e]
  by_cases h0 : S.armed = 0
  · rw [DS.put_tick0 h0]
    exact ⟨rfl, rfl, rfl, .inl ⟨rfl, ho⟩, fun _ => ⟨rfl, h0⟩⟩
  · by_cases h1 : 0 < S.armed - 1
    · rw [DS.put_tick1 h0 h1]
      exact ⟨rfl, rfl, rfl, .inl ⟨rfl, ho⟩, fun h => absurd h h0⟩
    · rw [DS.put_tick2 h0 h1]
      exact ⟨rfl, rfl, rfl, .inr ⟨rfl, rfl⟩, fun h => absurd h h0⟩

/-- What may have become of blocks L, of which those of p to p + n may be noughts. -/
structure Cut (L : List Blk8) (p n : Nat) (S : DS) : Prop where
  len : S.now.length = L.length
  now : ∀ i, i < L.length → S.now.getD i zeroB = L.getD i zeroB ∨ (p ≤ i ∧ i < p + n ∧ S.now.getD i zeroB = zeroB)
  last : ∀ i, i < L.length → S.last.getD i zeroB = L.getD i zeroB ∨ (p ≤ i ∧ i < p + n ∧ S.last.getD i zeroB = zeroB)
  wait : ∀ q ∈ S.wait, p ≤ q.1 ∧ q.1 < p + n ∧ q.2 = zeroB
theorem getD_set {L : List Blk8} {p i : Nat} {b : Blk8} (hi : i < L.length) : (L.set p b).getD i zeroB = if p = i then b else L.getD i zeroB := by
  rw [List.getD_eq_getElem?_getD]
  split
  · rename_i e; subst e; rw [List.getElem?_set_self hi]; rfl
  · rename_i e; rw [List.getElem?_set_ne e, List.getD_eq_getElem?_getD]
theorem lastOf_cut {L : List Blk8} {p n : Nat} (kept : Nat → Bool) : ∀ (l : List (Nat × Blk8)) (k : Nat) (M : List Blk8), (∀ q ∈ l, p ≤ q.1 ∧ q.1 < p + n ∧ q.2 = zeroB) → M.length = L.length →
    (∀ i, i < L.length → M.getD i zeroB = L.getD i zeroB ∨ (p ≤ i ∧ i < p + n ∧ M.getD i zeroB = zeroB)) →
    ∀ i, i < L.length → (lastOf kept k l M).getD i zeroB = L.getD i zeroB ∨ (p ≤ i ∧ i < p + n ∧ (lastOf kept k l M).getD i zeroB = zeroB)
  | [], _, _, _, _, h => h
  | q :: l, k, M, hl, hM, h => by
    rw [lastOf]
    refine lastOf_cut kept l (k + 1) _ (fun r hr => hl r (by simp [hr])) (by split <;> simp [hM]) ?_
    split
    · intro i hi
      rw [getD_set (by omega)]
      obtain ⟨h1, h2, h3⟩ := hl q (by simp)
      split
      · rename_i e; exact .inr ⟨by omega, by omega, h3⟩
      · exact h i hi
    · exact h
theorem Cut.settle {L : List Blk8} {p n : Nat} {S : DS} (h : Cut L p n S) (ht : S.Tied) (hlen : S.last.length = S.now.length) (kept : Nat → Bool) : Cut L p n (S.settle kept) := by
  have e := settle_now ht hlen kept
  have hl : ∀ i, i < L.length → (S.settle kept).last.getD i zeroB = L.getD i zeroB ∨ (p ≤ i ∧ i < p + n ∧ (S.settle kept).last.getD i zeroB = zeroB) :=
    lastOf_cut kept S.wait 0 S.last h.wait (by rw [hlen]; exact h.len) h.last
  exact ⟨(nowOf_len _ _ _).trans h.len, by rw [e]; exact hl, hl, fun q hq => by simp [DS.settle] at hq⟩
theorem Cut.zstep {L : List Blk8} {p n : Nat} {S : DS} (h : Cut L p n S) {k : Nat} (hk : k < n) (hn : p + n ≤ L.length) : Cut L p n (S.zstep (p + k)).1 := by
  have hp : p + k < S.now.length := by rw [h.len]; omega
  unfold DS.zstep
  split
  · exact h
  · split
    · exact h
    · rename_i h0 _
      have ho : S.off = false := by
        rw [at_in hp] at h0
        cases hoff : S.off
        · rfl
        · rw [hoff] at h0; simp at h0
      obtain ⟨w1, w2, w3, _, _⟩ := write_in ho hp zeroB
      refine ⟨by rw [w1]; simpa using h.len, fun i hi => ?_, by rw [w2]; exact h.last, fun q hq => ?_⟩
      · rw [w1, getD_set (by rw [h.len]; exact hi)]
        split
        · rename_i e; exact .inr ⟨by omega, by omega, rfl⟩
        · exact h.now i hi
      · rw [w3] at hq
        simp only [List.mem_append, List.mem_singleton] at hq
        rcases hq with hq | rfl
        · exact h.wait q hq
        · exact ⟨by show p ≤ p + k; omega, by show p + k < p + n; omega, rfl⟩
/-- A zeroing in its rounds: what is cut, and what is answered. -/
theorem zeros_cut {L : List Blk8} {p n : Nat} (hn : p + n ≤ L.length) : ∀ (m k : Nat) (S : DS) (N : Nat), k + m = n → S.Ok N → S.Tied → Cut L p n S → S.off = false → (∀ i, i < k → S.now.getD (p + i) zeroB = zeroB) →
    Cut L p n (S.zeros m (p + k)).1 ∧
      (((S.zeros m (p + k)).2 = 0 ∧ (S.zeros m (p + k)).1.off = false ∧ (S.zeros m (p + k)).1.wait = [] ∧ (∀ i, i < n → (S.zeros m (p + k)).1.now.getD (p + i) zeroB = zeroB)) ∨
        ((S.zeros m (p + k)).2 = 13 ∧ (S.zeros m (p + k)).1.off = true)) ∧ (S.armed = 0 → (S.zeros m (p + k)).2 = 0 ∧ (S.zeros m (p + k)).1.armed = 0)
  | 0, k, S, N, hk, hok, ht, hc, ho, hz => by
    have e : S.sync = (S.settle fun _ => true, 0) := by simp [DS.sync, ho]
    have e1 : (S.settle fun _ => true).now = S.now := (settle_now ht hok.len _).trans (by show lastOf _ 0 S.wait S.last = S.now; exact ht.now.symm)
    show Cut L p n S.sync.1 ∧ _
    unfold DS.zeros
    rw [e]
    refine ⟨hc.settle ht hok.len _, .inl ⟨rfl, ho, rfl, fun i hi => ?_⟩, fun h => ⟨rfl, h⟩⟩
    show (S.settle fun _ => true).now.getD (p + i) zeroB = zeroB
    rw [e1]
    exact hz i (by omega)
  | m + 1, k, S, N, hk, hok, ht, hc, ho, hz => by
    have hp : p + k < S.now.length := by rw [hc.len]; omega
    have h0 : S.at_ ((p + k : Nat) : Int) = 0 := by rw [at_in hp, ho]; rfl
    have hcs := hc.zstep (show k < n by omega) hn
    have hoks := zstep_ok hok (p + k)
    have hts := zstep_tied ht (p + k)
    unfold DS.zeros
    by_cases hb : S.now.getD (p + k) zeroB = zeroB
    · have e : S.zstep (p + k) = (S, 0) := by unfold DS.zstep; rw [if_neg (by simpa using h0), if_pos hb]
      rw [e] at hcs hoks hts ⊢
      rw [if_neg (by simp)]
      exact zeros_cut hn m (k + 1) S _ (by omega) hoks hts hcs ho (fun i hi => by
        by_cases h1 : i < k
        · exact hz i h1
        · have : i = k := by omega
          subst this; exact hb)
    · have e : S.zstep (p + k) = S.write ((p + k : Nat) : Int) zeroB := by unfold DS.zstep; rw [if_neg (by simpa using h0), if_neg hb]
      obtain ⟨w1, w2, w3, w4, w5⟩ := write_in ho hp zeroB
      rw [e] at hcs hoks hts ⊢
      rcases w4 with ⟨a, b⟩ | ⟨a, b⟩
      · rw [if_neg (by rw [a]; decide)]
        have ih := zeros_cut hn m (k + 1) _ _ (by omega) hoks hts hcs b (fun i hi => by
          rw [w1, getD_set (by rw [hc.len]; omega)]
          split
          · rfl
          · exact hz i (by omega))
        exact ⟨ih.1, ih.2.1, fun h => ih.2.2 (w5 h).2⟩
      · rw [if_pos (by rw [a]; decide)]
        exact ⟨hcs, .inr ⟨a, b⟩, fun h => by have := (w5 h).1; rw [a] at this; cases this⟩
theorem Cut.crash {L : List Blk8} {p n : Nat} {S : DS} (h : Cut L p n S) (ht : S.Tied) (hlen : S.last.length = S.now.length) (keep : List Bool) : Cut L p n (S.crash keep) :=
  let h' := h.settle ht hlen (fun k => keep.getD k false)
  ⟨h'.len, h'.now, h'.last, h'.wait⟩
end Go.Cu
/- A disk whose blocks are known one by one. No program. -/
namespace Go.Cu
structure Flatd (g : List Blk8) (N : Nat) (S : DS) : Prop where
  ok : S.Ok N
  td : S.Tied
  off : S.off = false
  arm : S.armed = 0
  now : S.now = g
theorem Flatd.new {n : Nat} (hn : n ≤ 8192) : Flatd (List.replicate n zeroB) 0 (DS.new n) := ⟨DS.Ok.new hn, DS.Tied.new n, rfl, rfl, rfl⟩
theorem Flatd.write {g : List Blk8} {N : Nat} {S : DS} (h : Flatd g N S) {i : Nat} (hi : i < g.length) {b : Blk8} (hb : b.length = 128) : Flatd (g.set i b) (N + 1) (S.write (i : Int) b).1 ∧ (S.write (i : Int) b).2 = 0 := by
  have hl : i < S.now.length := by rw [h.now]; exact hi
  obtain ⟨w1, _, _, _, w5⟩ := write_in h.off hl b
  obtain ⟨a1, a2⟩ := w5 h.arm
  refine ⟨⟨h.ok.write _ hb, h.td.write _ _, ?_, a2, by rw [w1, h.now]⟩, a1⟩
  rcases (write_in h.off hl b).2.2.2.1 with ⟨_, h2⟩ | ⟨h2, _⟩
  · exact h2
  · rw [a1] at h2; cases h2
theorem Flatd.sync {g : List Blk8} {N : Nat} {S : DS} (h : Flatd g N S) : Flatd g N S.sync.1 ∧ S.sync.2 = 0 ∧ S.sync.1.wait = [] ∧ S.sync.1.last = g := by
  have e : S.sync = (S.settle fun _ => true, 0) := by simp [DS.sync, h.off]
  have e2 : (S.settle fun _ => true).last = S.now := h.td.now.symm
  have e1 : (S.settle fun _ => true).now = S.now := (settle_now h.td h.ok.len _).trans e2
  rw [e]
  exact ⟨⟨h.ok.settle _, h.td.settle h.ok.len _, h.off, h.arm, e1.trans h.now⟩, rfl, rfl, e2.trans h.now⟩
theorem Flatd.cut {g : List Blk8} {N : Nat} {S : DS} (h : Flatd g N S) (hw : S.wait = []) (hl : S.last = g) (p n : Nat) : Cut g p n S :=
  ⟨by rw [h.now], fun i _ => .inl (by rw [h.now]), fun i _ => .inl (by rw [hl]), fun q hq => by rw [hw] at hq; cases hq⟩
theorem crash_off (S : DS) (keep : List Bool) : (S.crash keep).off = false := rfl
theorem crash_arm (S : DS) (keep : List Bool) : (S.crash keep).armed = 0 := rfl
theorem crash_nowait {S : DS} (h : S.wait = []) (keep : List Bool) : (S.crash keep).now = S.now := by
  show nowOf _ S.wait S.now = S.now
  rw [h]
  rfl
theorem crash_len' (S : DS) (keep : List Bool) : (S.crash keep).now.length = S.now.length := nowOf_len _ _ _
/-- All that a zeroing cut off by the power, a crash, and a zeroing once more come to. -/
structure CutTold (g : List Blk8) (n : Nat) (R : DS × Int) (S4 : DS) : Prop where
  dn : (R.2 = 0 ∧ R.1.off = false) ∨ (R.2 = 13 ∧ R.1.off = true)
  now : ∀ i, i < g.length → S4.now.getD i zeroB = g.getD i zeroB ∨ (i < n ∧ S4.now.getD i zeroB = zeroB)
  clear : R.2 = 0 → S4.clear 0 n = true
  again : (S4.zeros n 0).2 = 0 ∧ (S4.zeros n 0).1.off = false ∧ (S4.zeros n 0).1.wait = [] ∧ (S4.zeros n 0).1.clear 0 n = true
theorem cut_told {g : List Blk8} {N n : Nat} {S : DS} (h : Flatd g N S) (hw : S.wait = []) (hl : S.last = g) (hn : n ≤ g.length) (a : Int) (ha : a ≤ 9223372036854775807) (keep : List Bool) :
    CutTold g n ((S.arm a).zeros n 0) (((S.arm a).zeros n 0).1.crash keep) := by
  have hok : (S.arm a).Ok N := h.ok.arm ha
  have hc : Cut g 0 n (S.arm a) := let c := h.cut hw hl 0 n; ⟨c.len, c.now, c.last, c.wait⟩
  obtain ⟨c1, c2, _⟩ := zeros_cut (p := 0) (n := n) (by omega) n 0 (S.arm a) N (by omega) hok (h.td.arm a) hc h.off (fun i hi => absurd hi (by omega))
  simp only [Nat.zero_add] at c1 c2
  have hokR := zeros_ok (n := n) (p := 0) hok
  have htdR := zeros_tied (n := n) (p := 0) hok (h.td.arm a)
  have c4 := c1.crash htdR hokR.len keep
  have hok4 := hokR.crash keep
  have htd4 := htdR.crash hokR.len keep
  obtain ⟨d1, d2, d3⟩ := zeros_cut (p := 0) (n := n) (by omega) n 0 _ _ (by omega) hok4 htd4 c4 (crash_off _ _) (fun i hi => absurd hi (by omega))
  simp only [Nat.zero_add] at d1 d2 d3
  have d3 := d3 (crash_arm _ _)
  refine ⟨?_, fun i hi => ?_, fun h0 => ?_, ?_⟩
  · rcases c2 with ⟨x, y, _⟩ | ⟨x, y⟩
    · exact .inl ⟨x, y⟩
    · exact .inr ⟨x, y⟩
  · rcases c4.now i hi with h1 | ⟨_, h2, h3⟩
    · exact .inl h1
    · exact .inr ⟨by omega, h3⟩
  · rcases c2 with ⟨_, _, x, y⟩ | ⟨x, _⟩
    · rw [clear_iff]
      intro i hi
      rw [crash_nowait x, Nat.zero_add]
      exact y i hi
    · rw [h0] at x; cases x
  · rcases d2 with ⟨x, y, z, u⟩ | ⟨x, _⟩
    · exact ⟨x, y, z, clear_iff.2 fun i hi => by rw [Nat.zero_add]; exact u i hi⟩
    · rw [d3.1] at x; cases x
end Go.Cu
namespace Go.Cu
/-- A zeroing with the power on, and a crash behind it. -/
theorem zero_told {g : List Blk8} {N n p : Nat} {S : DS} (h : Flatd g N S) (hw : S.wait = []) (hl : S.last = g) (hn : p + n ≤ g.length) (keep : List Bool) :
    (S.zeros n p).2 = 0 ∧ (S.zeros n p).1.off = false ∧ (∀ i, i < g.length → ((S.zeros n p).1.crash keep).now.getD i zeroB = if p ≤ i ∧ i < p + n then zeroB else g.getD i zeroB) ∧ ((S.zeros n p).1.crash keep).clear p n = true := by
  obtain ⟨c1, c2, c3⟩ := zeros_cut (p := p) (n := n) hn n 0 S N (by omega) h.ok h.td (h.cut hw hl p n) h.off (fun i hi => absurd hi (by omega))
  simp only [Nat.add_zero] at c1 c2 c3
  have e := (c3 h.arm).1
  rcases c2 with ⟨_, x, y, z⟩ | ⟨x, _⟩
  · have hnow : ((S.zeros n p).1.crash keep).now = (S.zeros n p).1.now := crash_nowait y keep
    refine ⟨e, x, fun i hi => ?_, ?_⟩
    · rw [hnow]
      split
      · rename_i hr
        have := z (i - p) (by omega)
        rwa [show p + (i - p) = i by omega] at this
      · rename_i hr
        rcases c1.now i hi with h1 | ⟨h2, h3, _⟩
        · exact h1
        · exact absurd ⟨h2, h3⟩ hr
    · rw [clear_iff]
      intro i hi
      rw [hnow]
      exact z i hi
  · rw [e] at x; cases x
end Go.Cu
/- A journal over a disk, plainly. No program. -/
namespace Go.Cu
/-- How many blocks a record of so many bytes needs. -/
def blocksN (size : Nat) : Nat := max ((size + 116) / 117) 1
theorem blocksN_pos (size : Nat) : 1 ≤ blocksN size := Nat.le_max_right _ _
theorem blocksN_fits (size : Nat) : size ≤ 117 * blocksN size := by unfold blocksN; omega
theorem blocksN_le {size : Nat} (h : size ≤ 65535) : blocksN size ≤ 561 := by unfold blocksN; omega
/-- Eight bytes of a number, the highest first. -/
def be8 (n : Nat) : List UInt8 := (List.range 8).map fun i => UInt8.ofNat (n / 2 ^ (8 * (7 - i)))
def headL (n size : Nat) : List UInt8 := 1 :: (be8 n ++ [UInt8.ofNat (size / 256), UInt8.ofNat size])
def restL : List UInt8 := 2 :: List.replicate 10 0
theorem be8_len (n : Nat) : (be8 n).length = 8 := by simp [be8]
theorem headL_len (n size : Nat) : (headL n size).length = 11 := by simp [headL, be8_len]
theorem restL_len : restL.length = 11 := rfl
def chunkL (k : Nat) (rec : List UInt8) : List UInt8 := (rec.drop (117 * k)).take 117
def padL (l : List UInt8) : List UInt8 := l ++ List.replicate (117 - l.length) 0
theorem chunkL_le (k : Nat) (rec : List UInt8) : (chunkL k rec).length ≤ 117 := by simp [chunkL]; omega
theorem padL_len {l : List UInt8} (h : l.length ≤ 117) : (padL l).length = 117 := by simp [padL]; omega
/-- The k-th block of record n. -/
def blockB (n k : Nat) (rec : List UInt8) : Blk8 := (if k = 0 then headL n rec.length else restL) ++ padL (chunkL k rec)
theorem blockB_len (n k : Nat) (rec : List UInt8) : (blockB n k rec).length = 128 := by
  unfold blockB
  rw [List.length_append, padL_len (chunkL_le k rec)]
  split
  · rw [headL_len]
  · rfl
def sizeOfB (b : Blk8) : Nat := (b.getD 9 0).toNat * 256 + (b.getD 10 0).toNat
structure Jn where
  first : Nat
  size : Nat
  used : Nat
  n : Nat
/-- The record that stands next. -/
def nextR (now : List Blk8) (J : Jn) : Option (List UInt8) :=
  if J.used = J.size then none
  else if (now.getD (J.first + J.used) zeroB).take 11 = headL J.n (sizeOfB (now.getD (J.first + J.used) zeroB)) ∧ blocksN (sizeOfB (now.getD (J.first + J.used) zeroB)) ≤ J.size - J.used then
    some (((List.range (blocksN (sizeOfB (now.getD (J.first + J.used) zeroB)))).flatMap fun k => (now.getD (J.first + J.used + k) zeroB).drop 11).take (sizeOfB (now.getD (J.first + J.used) zeroB)))
  else none
def Jn.more (J : Jn) (len : Nat) : Jn := { J with used := J.used + blocksN len, n := J.n + 1 }
/-- All records from a place on. -/
def readR (now : List Blk8) : Nat → Jn → List (List UInt8) × Jn
  | 0, J => ([], J)
  | f + 1, J => match nextR now J with
    | none => ([], J)
    | some r => let x := readR now f (J.more r.length); (r :: x.1, x.2)
/-- The blocks behind the head. -/
def DS.tailS (J : Jn) (rec : List UInt8) : Nat → Nat → DS → DS × Int
  | 0, _, S => (S, 0)
  | m + 1, k, S => if (S.write (J.first + J.used + k : Nat) (blockB J.n k rec)).2 ≠ 0 then S.write (J.first + J.used + k : Nat) (blockB J.n k rec) else DS.tailS J rec m (k + 1) (S.write (J.first + J.used + k : Nat) (blockB J.n k rec)).1
def DS.tailA (S : DS) (J : Jn) (rec : List UInt8) : DS × Int :=
  if (S.tailS J rec (blocksN rec.length - 1) 1).2 ≠ 0 then S.tailS J rec (blocksN rec.length - 1) 1
  else if blocksN rec.length = 1 then ((S.tailS J rec (blocksN rec.length - 1) 1).1, 0) else (S.tailS J rec (blocksN rec.length - 1) 1).1.sync
def DS.headA (S : DS) (J : Jn) (rec : List UInt8) : DS × Int :=
  if (S.write (J.first + J.used : Nat) (blockB J.n 0 rec)).2 ≠ 0 then S.write (J.first + J.used : Nat) (blockB J.n 0 rec) else (S.write (J.first + J.used : Nat) (blockB J.n 0 rec)).1.sync
/-- A record more. -/
def DS.append (S : DS) (J : Jn) (rec : List UInt8) : DS × Int :=
  if 65535 < rec.length then (S, 5) else if J.size - J.used < blocksN rec.length then (S, 7)
  else if (S.tailA J rec).2 ≠ 0 then S.tailA J rec else (S.tailA J rec).1.headA J rec
end Go.Cu
namespace Go.Cu
/-- Noughts in so many blocks, that last. -/
def DS.wipe : Nat → Nat → DS → DS × Int
  | 0, _, S => S.sync
  | n + 1, p, S => if (S.write (p : Int) zeroB).2 ≠ 0 then S.write (p : Int) zeroB else DS.wipe n (p + 1) (S.write (p : Int) zeroB).1
theorem wipe_stop {S : DS} {m p : Nat} (h : (S.write (p : Int) zeroB).2 ≠ 0) : S.wipe (m + 1) p = S.write (p : Int) zeroB := by rw [DS.wipe, if_pos h]
theorem wipe_go {S : DS} {m p : Nat} (h : (S.write (p : Int) zeroB).2 = 0) : S.wipe (m + 1) p = (S.write (p : Int) zeroB).1.wipe m (p + 1) := by rw [DS.wipe, if_neg (by rw [h]; decide)]
theorem tailS_stop {J : Jn} {rec : List UInt8} {S : DS} {m k : Nat} (h : (S.write (J.first + J.used + k : Nat) (blockB J.n k rec)).2 ≠ 0) : S.tailS J rec (m + 1) k = S.write (J.first + J.used + k : Nat) (blockB J.n k rec) := by rw [DS.tailS, if_pos h]
theorem tailS_go {J : Jn} {rec : List UInt8} {S : DS} {m k : Nat} (h : (S.write (J.first + J.used + k : Nat) (blockB J.n k rec)).2 = 0) : S.tailS J rec (m + 1) k = (S.write (J.first + J.used + k : Nat) (blockB J.n k rec)).1.tailS J rec m (k + 1) := by rw [DS.tailS, if_neg (by rw [h]; decide)]
end Go.Cu
/- What the blocks of a journal hold, and what a crash leaves of them: plainly. No program. -/
namespace Go.Cu
/-- The journal J holds the records rs from its place on; J' is behind them. -/
def Laid (L : List Blk8) : Jn → List (List UInt8) → Jn → Prop
  | J, [], J' => J' = J
  | J, r :: rs, J' => r.length ≤ 65535 ∧ blocksN r.length ≤ J.size - J.used ∧ (∀ k, k < blocksN r.length → L.getD (J.first + J.used + k) zeroB = blockB J.n k r) ∧ Laid L (J.more r.length) rs J'
/-- Behind J's records there is no head. -/
def Bare (L : List Blk8) (J : Jn) : Prop := ∀ i, J.used ≤ i → i < J.size → (L.getD (J.first + i) zeroB).headD 0 ≠ 1
theorem Laid.facts {L : List Blk8} : ∀ {rs : List (List UInt8)} {J J' : Jn}, Laid L J rs J' → J.used ≤ J.size → J'.first = J.first ∧ J'.size = J.size ∧ J'.n = J.n + rs.length ∧ J.used + rs.length ≤ J'.used ∧ J'.used ≤ J'.size
  | [], J, J', h, hu => by cases h; exact ⟨rfl, rfl, rfl, Nat.le_refl _, hu⟩
  | r :: rs, J, J', h, hu => by
    obtain ⟨_, h2, _, h4⟩ := h
    have hb := blocksN_pos r.length
    have hf := h4.facts (by show J.used + blocksN r.length ≤ J.size; omega)
    obtain ⟨f1, f2, f3, f4, f5⟩ := hf
    refine ⟨f1, f2, ?_, ?_, f5⟩
    · rw [f3, List.length_cons]; show J.n + 1 + rs.length = _; omega
    · rw [List.length_cons]; have : (J.more r.length).used = J.used + blocksN r.length := rfl; omega
theorem Laid.congr {L L' : List Blk8} : ∀ {rs : List (List UInt8)} {J J' : Jn}, Laid L J rs J' → J.used ≤ J.size → (∀ i, J.used ≤ i → i < J'.used → L'.getD (J.first + i) zeroB = L.getD (J.first + i) zeroB) → Laid L' J rs J'
  | [], _, _, h, _, _ => h
  | r :: rs, J, J', h, hu, hc => by
    obtain ⟨h1, h2, h3, h4⟩ := h
    have hb := blocksN_pos r.length
    have hu' : (J.more r.length).used ≤ (J.more r.length).size := by show J.used + blocksN r.length ≤ J.size; omega
    obtain ⟨f1, f2, f3, f4, f5⟩ := h4.facts hu'
    have hm : (J.more r.length).used = J.used + blocksN r.length := rfl
    refine ⟨h1, h2, fun k hk => ?_, h4.congr hu' fun i hi hi' => hc i (by omega) hi'⟩
    have := hc (J.used + k) (by omega) (by omega)
    rw [← Nat.add_assoc] at this
    rw [this, h3 k hk]
theorem Laid.snoc {L : List Blk8} {r : List UInt8} : ∀ {rs : List (List UInt8)} {J J' : Jn}, Laid L J rs J' → r.length ≤ 65535 → blocksN r.length ≤ J'.size - J'.used → (∀ k, k < blocksN r.length → L.getD (J'.first + J'.used + k) zeroB = blockB J'.n k r) → Laid L J (rs ++ [r]) (J'.more r.length)
  | [], J, J', h, h1, h2, h3 => by cases h; exact ⟨h1, h2, h3, rfl⟩
  | q :: rs, J, J', h, h1, h2, h3 => by
    obtain ⟨a1, a2, a3, a4⟩ := h
    exact ⟨a1, a2, a3, a4.snoc h1 h2 h3⟩
theorem Laid.same {L L' : List Blk8} : ∀ {rs : List (List UInt8)} {J J' J'' : Jn}, Laid L J rs J' → Laid L' J rs J'' → J' = J''
  | [], _, _, _, h, h' => by cases h; cases h'; rfl
  | _ :: _, _, _, _, h, h' => h.2.2.2.same h'.2.2.2

/-! What is read of what was laid. -/
theorem chunk_join (r : List UInt8) : ∀ m, 117 * m ≤ r.length → ((List.range m).flatMap fun k => padL (chunkL k r)) = r.take (117 * m)
  | 0, _ => by simp
  | m + 1, h => by
    rw [List.range_succ, List.flatMap_append, chunk_join r m (by omega), List.flatMap_singleton]
    have hc : (chunkL m r).length = 117 := by simp [chunkL]; omega
    unfold padL
    rw [hc, Nat.sub_self, List.replicate_zero, List.append_nil]
    unfold chunkL
    rw [show 117 * (m + 1) = 117 * m + 117 by omega, List.take_add]
theorem chunk_all (r : List UInt8) {m : Nat} (h1 : 117 * m ≤ r.length) (h2 : r.length ≤ 117 * (m + 1)) : ((List.range (m + 1)).flatMap fun k => padL (chunkL k r)).take r.length = r := by
  rw [List.range_succ, List.flatMap_append, chunk_join r m h1, List.flatMap_singleton]
  have hc : chunkL m r = r.drop (117 * m) := by
    unfold chunkL
    exact List.take_of_length_le (by rw [List.length_drop]; omega)
  rw [hc]
  unfold padL
  rw [← List.append_assoc, List.take_append_drop, List.take_left]
theorem blockB_drop (n k : Nat) (r : List UInt8) : (blockB n k r).drop 11 = padL (chunkL k r) := by
  unfold blockB
  split
  · exact List.drop_left' (headL_len _ _)
  · exact List.drop_left' restL_len
theorem blockB_take (n : Nat) (r : List UInt8) : (blockB n 0 r).take 11 = headL n r.length := by
  unfold blockB
  rw [if_pos rfl]
  exact List.take_left' (headL_len _ _)
theorem headL_get (n s : Nat) (l : List UInt8) : (headL n s ++ l).getD 9 0 = UInt8.ofNat (s / 256) ∧ (headL n s ++ l).getD 10 0 = UInt8.ofNat s := by
  have hb := be8_len n
  have e9 : (headL n s ++ l)[9]? = some (UInt8.ofNat (s / 256)) := by
    unfold headL
    rw [List.cons_append, List.getElem?_cons_succ, List.append_assoc, List.getElem?_append_right (by omega), hb]
    rfl
  have e10 : (headL n s ++ l)[10]? = some (UInt8.ofNat s) := by
    unfold headL
    rw [List.cons_append, List.getElem?_cons_succ, List.append_assoc, List.getElem?_append_right (by omega), hb]
    rfl
  exact ⟨by rw [List.getD_eq_getElem?_getD, e9]; rfl, by rw [List.getD_eq_getElem?_getD, e10]; rfl⟩
theorem blockB_size (n : Nat) (r : List UInt8) (h : r.length ≤ 65535) : sizeOfB (blockB n 0 r) = r.length := by
  unfold blockB sizeOfB
  rw [if_pos rfl]
  obtain ⟨h1, h2⟩ := headL_get n r.length (padL (chunkL 0 r))
  rw [h1, h2, UInt8.toNat_ofNat', UInt8.toNat_ofNat']
  omega
theorem blockB_head0 (n : Nat) (r : List UInt8) : (blockB n 0 r).headD 0 = 1 := by
  unfold blockB headL
  rw [if_pos rfl]
  rfl
theorem blockB_rest0 (n : Nat) {k : Nat} (hk : k ≠ 0) (r : List UInt8) : (blockB n k r).headD 0 = 2 := by
  unfold blockB restL
  rw [if_neg hk]
  rfl
theorem next_laid {L : List Blk8} {J : Jn} {r : List UInt8} (h1 : r.length ≤ 65535) (h2 : blocksN r.length ≤ J.size - J.used) (h3 : ∀ k, k < blocksN r.length → L.getD (J.first + J.used + k) zeroB = blockB J.n k r) : nextR L J = some r := by
  have hb := blocksN_pos r.length
  have h0 : L.getD (J.first + J.used) zeroB = blockB J.n 0 r := h3 0 (by omega)
  unfold nextR
  rw [if_neg (by omega), h0, blockB_size _ _ h1, if_pos ⟨blockB_take _ _, h2⟩]
  congr 1
  have e : ((List.range (blocksN r.length)).flatMap fun k => (L.getD (J.first + J.used + k) zeroB).drop 11) = (List.range (blocksN r.length)).flatMap fun k => padL (chunkL k r) := by
    rw [List.flatMap_def, List.flatMap_def]
    congr 1
    refine List.map_congr_left fun k hk => ?_
    rw [h3 k (List.mem_range.1 hk), blockB_drop]
  rw [e]
  obtain ⟨m, hm⟩ : ∃ m, blocksN r.length = m + 1 := ⟨blocksN r.length - 1, by omega⟩
  rw [hm]
  exact chunk_all r (by unfold blocksN at hm; omega) (by have := blocksN_fits r.length; rw [hm] at this; exact this)
theorem next_bare {L : List Blk8} {J : Jn} (h : Bare L J) (hu : J.used ≤ J.size) : nextR L J = none := by
  unfold nextR
  split
  · rfl
  · rename_i hne
    rw [if_neg]
    rintro ⟨h1, _⟩
    have h2 := h J.used (Nat.le_refl _) (by omega)
    have h3 := congrArg (fun l => l.headD 0) h1
    apply h2
    cases hl : L.getD (J.first + J.used) zeroB with
    | nil => rw [hl] at h3; exact h3
    | cons a l => rw [hl] at h3; exact h3
theorem read_laid {L : List Blk8} : ∀ {rs : List (List UInt8)} {J J' : Jn} {f : Nat}, Laid L J rs J' → J.used ≤ J.size → Bare L J' → rs.length ≤ f → readR L f J = (rs, J')
  | [], J, J', f, h, hu, hb, _ => by
    cases h
    cases f with
    | zero => rfl
    | succ f => rw [readR, next_bare hb hu]
  | r :: rs, J, J', f, h, hu, hb, hf => by
    obtain ⟨h1, h2, h3, h4⟩ := h
    cases f with
    | zero => cases hf
    | succ f =>
      have hp := blocksN_pos r.length
      rw [readR, next_laid h1 h2 h3]
      dsimp only
      rw [read_laid h4 (by show J.used + blocksN r.length ≤ J.size; omega) hb (by simpa using hf)]

/-! What a write does where the power is on. -/
theorem write_on {S : DS} {i : Nat} {b : Blk8} (ho : S.off = false) (hi : i < S.now.length) : ∃ a o e, S.write (i : Int) b = ({ S.put i b with armed := a, off := o }, e) ∧ (e = 0 ∧ o = false ∨ e = 13 ∧ o = true) ∧ (S.armed = 0 → a = 0 ∧ o = false) := by
  have h0 : S.at_ (i : Int) = 0 := by
    unfold DS.at_
    rw [ho]
    simp only [Bool.false_eq_true, if_false]
    rw [if_neg (by omega)]
  unfold DS.write
  rw [h0, if_neg (by decide), Int.toNat_natCast]
  unfold DS.tick
  split
  · rename_i ha
    exact ⟨S.armed, S.off, 0, rfl, .inl ⟨rfl, ho⟩, fun h => ⟨h, ho⟩⟩
  · rename_i ha
    split
    · exact ⟨S.armed - 1, S.off, 0, rfl, .inl ⟨rfl, ho⟩, fun h => absurd h ha⟩
    · exact ⟨S.armed - 1, true, 13, rfl, .inr ⟨rfl, rfl⟩, fun h => absurd h ha⟩
/-- What lasts of writes: each place has what it had, or one of the writes to it. -/
theorem lastOf_get (kept : Nat → Bool) (j : Nat) : ∀ (l : List (Nat × Blk8)) (k : Nat) (L : List Blk8), (lastOf kept k l L).getD j zeroB = L.getD j zeroB ∨ ∃ p ∈ l, p.1 = j ∧ (lastOf kept k l L).getD j zeroB = p.2
  | [], _, _ => .inl rfl
  | p :: l, k, L => by
    rw [lastOf]
    rcases lastOf_get kept j l (k + 1) (if kept k then L.set p.1 p.2 else L) with h | ⟨q, hq, h1, h2⟩
    · rw [h]
      split
      · by_cases e : p.1 = j
        · by_cases hj : j < L.length
          · refine .inr ⟨p, by simp, e, ?_⟩
            rw [e, List.getD_eq_getElem?_getD, List.getElem?_set_self hj]; rfl
          · refine .inl ?_
            rw [List.set_eq_of_length_le (by omega)]
        · refine .inl ?_
          rw [List.getD_eq_getElem?_getD, List.getElem?_set_ne e, List.getD_eq_getElem?_getD]
      · exact .inl rfl
    · exact .inr ⟨q, List.mem_cons_of_mem _ hq, h1, h2⟩
/-- A write behind the records: in J's room, and no head. -/
def Behind (J : Jn) (l : List (Nat × Blk8)) : Prop := ∀ p ∈ l, ∃ i, J.used ≤ i ∧ i < J.size ∧ p.1 = J.first + i ∧ p.2.headD 0 ≠ 1
theorem Behind.laid {J0 J : Jn} {l : List (Nat × Blk8)} {L : List Blk8} {rs : List (List UInt8)} (h : Behind J l) (hl : Laid L J0 rs J) (h0 : J0.used ≤ J0.size) (kept : Nat → Bool) (k : Nat) : Laid (lastOf kept k l L) J0 rs J := by
  obtain ⟨f1, f2, f3, f4, f5⟩ := hl.facts h0
  refine hl.congr h0 fun i hi hi' => ?_
  rcases lastOf_get kept (J0.first + i) l k L with e | ⟨p, hp, e, _⟩
  · exact e
  · obtain ⟨i', g1, g2, g3, _⟩ := h p hp
    omega
theorem Behind.bare {J : Jn} {l : List (Nat × Blk8)} {L : List Blk8} (h : Behind J l) (hb : Bare L J) (kept : Nat → Bool) (k : Nat) : Bare (lastOf kept k l L) J := by
  intro i hi hi'
  rcases lastOf_get kept (J.first + i) l k L with e | ⟨p, hp, e, e2⟩
  · rw [e]; exact hb i hi hi'
  · obtain ⟨_, _, _, _, g⟩ := h p hp
    rw [e2]; exact g

/-- A journal's disk where all lasts. -/
structure Quiet (S : DS) (J0 : Jn) (rs : List (List UInt8)) (J : Jn) : Prop where
  wait : S.wait = []
  now : S.now = S.last
  on : S.off = false
  fits : J0.first + J0.size ≤ S.now.length
  used : J0.used ≤ J0.size
  laid : Laid S.last J0 rs J
  bare : Bare S.last J
/-- A journal's disk where the power went off as rec was under way. -/
structure Fallen (S : DS) (J0 : Jn) (rs : List (List UInt8)) (rec : List UInt8) : Prop where
  off : S.off = true
  then_ : ∀ keep, ∃ rs' J', (rs' = rs ∨ rs' = rs ++ [rec]) ∧ Quiet (S.crash keep) J0 rs' J'
theorem Quiet.tied {S : DS} {J0 J : Jn} {rs : List (List UInt8)} (h : Quiet S J0 rs J) : S.Tied := ⟨by rw [h.now, h.wait]; rfl⟩
theorem Quiet.crash {S : DS} {J0 J : Jn} {rs : List (List UInt8)} (h : Quiet S J0 rs J) (keep : List Bool) : Quiet (S.crash keep) J0 rs J := by
  have e1 : (S.crash keep).last = S.last := by simp [DS.crash, DS.settle, h.wait, lastOf]
  have e2 : (S.crash keep).now = S.now := by simp [DS.crash, DS.settle, h.wait, nowOf]
  exact ⟨rfl, by rw [e1, e2, h.now], rfl, by rw [e2]; exact h.fits, h.used, by rw [e1]; exact h.laid, by rw [e1]; exact h.bare⟩
theorem Quiet.arm {S : DS} {J0 J : Jn} {rs : List (List UInt8)} (h : Quiet S J0 rs J) (n : Int) : Quiet (S.arm n) J0 rs J := ⟨h.wait, h.now, h.on, h.fits, h.used, h.laid, h.bare⟩
theorem Quiet.read {S : DS} {J0 J : Jn} {rs : List (List UInt8)} (h : Quiet S J0 rs J) {f : Nat} (hf : J0.size ≤ f) : readR S.now f J0 = (rs, J) := by
  obtain ⟨f1, f2, f3, f4, f5⟩ := h.laid.facts h.used
  rw [h.now]
  exact read_laid h.laid h.used h.bare (by omega)

/-! A disk on which a record's blocks behind the head are written. -/
/-- Writes under way, all behind the records. -/
structure Busy (S : DS) (J0 : Jn) (rs : List (List UInt8)) (J : Jn) : Prop where
  tied : S.Tied
  len : S.last.length = S.now.length
  fits : J0.first + J0.size ≤ S.now.length
  used : J0.used ≤ J0.size
  laid : Laid S.last J0 rs J
  bare : Bare S.last J
  behind : Behind J S.wait
section
variable {S : DS} {J0 J : Jn} {rs : List (List UInt8)} {rec : List UInt8}
theorem Quiet.busy (h : Quiet S J0 rs J) : Busy S J0 rs J := ⟨h.tied, by rw [h.now], h.fits, h.used, h.laid, h.bare, by intro p hp; rw [h.wait] at hp; cases hp⟩
theorem Busy.crash (h : Busy S J0 rs J) (keep : List Bool) : Quiet (S.crash keep) J0 rs J := by
  have hc : (S.crash keep).now = (S.crash keep).last := settle_now h.tied h.len fun k => keep.getD k false
  refine ⟨rfl, hc, rfl, ?_, h.used, h.behind.laid h.laid h.used _ _, h.behind.bare h.bare _ _⟩
  have : (S.crash keep).now.length = S.now.length := nowOf_len _ _ _
  rw [this]; exact h.fits
theorem Busy.sync (h : Busy S J0 rs J) (ho : S.off = false) : S.sync = (S.settle (fun _ => true), 0) ∧ Quiet S.sync.1 J0 rs J := by
  have e : S.sync = (S.settle (fun _ => true), 0) := by unfold DS.sync; rw [if_neg (by rw [ho]; decide)]
  refine ⟨e, ?_⟩
  rw [e]
  have hc := settle_now h.tied h.len fun _ => true
  refine ⟨rfl, hc, ho, ?_, h.used, h.behind.laid h.laid h.used _ _, h.behind.bare h.bare _ _⟩
  have : (S.settle fun _ => true).now.length = S.now.length := nowOf_len _ _ _
  rw [this]; exact h.fits
theorem Busy.put (h : Busy S J0 rs J) {i : Nat} {b : Blk8} (hi : J.used ≤ i) (hi' : i < J.size) (hb : b.headD 0 ≠ 1) (a : Int) (o : Bool) : Busy { S.put (J.first + i) b with armed := a, off := o } J0 rs J := by
  refine ⟨⟨(h.tied.put (J.first + i) b).now⟩, ?_, ?_, h.used, h.laid, h.bare, ?_⟩
  · show S.last.length = (S.now.set _ _).length
    rw [List.length_set]; exact h.len
  · show _ ≤ (S.now.set _ _).length
    rw [List.length_set]; exact h.fits
  · intro p hp
    rcases List.mem_append.1 hp with hp | hp
    · exact h.behind p hp
    · obtain rfl := List.mem_singleton.1 hp
      exact ⟨i, hi, hi', rfl, hb⟩
/-- The blocks behind the head, from the k-th on. -/
theorem Busy.tailS : ∀ (m k : Nat) {S : DS}, Busy S J0 rs J → S.off = false → 1 ≤ k → J.used + k + m ≤ J.size →
    ∃ T e, S.tailS J rec m k = (T, e) ∧ Busy T J0 rs J ∧ T.last = S.last ∧ T.now.length = S.now.length ∧ (S.armed = 0 → T.armed = 0 ∧ e = 0) ∧ (e = 13 ∧ T.off = true ∨ e = 0 ∧ T.off = false ∧
      (∀ i, k ≤ i → i < k + m → T.now.getD (J.first + J.used + i) zeroB = blockB J.n i rec) ∧ ∀ q, (∀ i, k ≤ i → i < k + m → q ≠ J.first + J.used + i) → T.now.getD q zeroB = S.now.getD q zeroB)
  | 0, k, S, h, ho, _, _ => ⟨S, 0, rfl, h, rfl, rfl, fun h => ⟨h, rfl⟩, .inr ⟨rfl, ho, fun i h1 h2 => by omega, fun _ _ => rfl⟩⟩
  | m + 1, k, S, h, ho, hk, hm => by
    obtain ⟨f1, f2, f3, f4, f5⟩ := h.laid.facts h.used
    have hin : J.first + J.used + k < S.now.length := by have := h.fits; omega
    obtain ⟨a, o, e, hw, heo, hz⟩ := write_on (b := blockB J.n k rec) ho hin
    have hB : Busy { S.put (J.first + J.used + k) (blockB J.n k rec) with armed := a, off := o } J0 rs J := by
      rw [Nat.add_assoc]
      exact h.put (by omega) (by omega) (by rw [blockB_rest0 _ (by omega)]; decide) a o
    have hlen : (S.now.set (J.first + J.used + k) (blockB J.n k rec)).length = S.now.length := List.length_set
    have hself : (S.now.set (J.first + J.used + k) (blockB J.n k rec)).getD (J.first + J.used + k) zeroB = blockB J.n k rec := by
      rw [List.getD_eq_getElem?_getD, List.getElem?_set_self hin]; rfl
    have hother : ∀ q, q ≠ J.first + J.used + k → (S.now.set (J.first + J.used + k) (blockB J.n k rec)).getD q zeroB = S.now.getD q zeroB := fun q hq => by
      rw [List.getD_eq_getElem?_getD, List.getElem?_set_ne (fun e => hq e.symm), List.getD_eq_getElem?_getD]
    rcases heo with ⟨rfl, rfl⟩ | ⟨rfl, rfl⟩
    · rw [tailS_go (by rw [hw]), hw]
      obtain ⟨T, e, h1, h2, h3, h4, h5, h6⟩ := Busy.tailS m (k + 1) hB rfl (by omega) (by omega)
      refine ⟨T, e, h1, h2, h3, h4.trans hlen, fun h => h5 (hz h).1, ?_⟩
      rcases h6 with h6 | ⟨h6, h7, h8, h9⟩
      · exact .inl h6
      · refine .inr ⟨h6, h7, fun i hi hi' => ?_, fun q hq => ?_⟩
        · rcases Nat.lt_or_ge k i with h | h
          · exact h8 i (by omega) (by omega)
          · obtain rfl : i = k := by omega
            rw [h9 _ (fun j hj _ e => by omega)]
            exact hself
        · rw [h9 q (fun j hj hj' => hq j (by omega) (by omega))]
          exact hother q (hq k (by omega) (by omega))
    · rw [tailS_stop (by rw [hw]; simp), hw]
      exact ⟨_, _, rfl, hB, rfl, hlen, fun h => (by have := (hz h).2; cases this), .inl ⟨rfl, rfl⟩⟩
/-- What an append does where all lasts. -/
theorem Quiet.append (h : Quiet S J0 rs J) (hl : rec.length ≤ 65535) : ∃ T e, S.append J rec = (T, e) ∧ T.now.length = S.now.length ∧ (S.armed = 0 → T.armed = 0 ∧ e ≠ 13) ∧
    (J.size - J.used < blocksN rec.length ∧ e = 7 ∧ T = S ∨ blocksN rec.length ≤ J.size - J.used ∧ (e = 0 ∧ Quiet T J0 (rs ++ [rec]) (J.more rec.length) ∨ e = 13 ∧ Fallen T J0 rs rec)) := by
  unfold DS.append
  rw [if_neg (by omega)]
  by_cases hfull : J.size - J.used < blocksN rec.length
  · rw [if_pos hfull]
    exact ⟨S, 7, rfl, rfl, fun h => ⟨h, by decide⟩, .inl ⟨hfull, rfl, rfl⟩⟩
  rw [if_neg hfull]
  have hnb := blocksN_pos rec.length
  obtain ⟨f1, f2, f3, f4, f5⟩ := h.laid.facts h.used
  obtain ⟨T, e, hT, hB, hlast, hlen, harm, hres⟩ := h.busy.tailS (rec := rec) (blocksN rec.length - 1) 1 h.on (Nat.le_refl _) (by omega)
  rcases hres with ⟨rfl, hoff⟩ | ⟨rfl, hon, hin, hout⟩
  · have hA : S.tailA J rec = (T, 13) := by unfold DS.tailA; rw [hT, if_pos (by simp)]
    rw [hA, if_pos (by simp)]
    refine ⟨T, 13, rfl, hlen, fun h => (by have := (harm h).2; cases this), .inr ⟨by omega, .inr ⟨rfl, hoff, fun keep => ⟨rs, J, .inl rfl, hB.crash keep⟩⟩⟩⟩
  · -- the tail lasts
    obtain ⟨U, hA, hU, hUn, hUl, hUa⟩ : ∃ U, S.tailA J rec = (U, 0) ∧ Quiet U J0 rs J ∧ U.now.length = S.now.length ∧ (∀ k, 1 ≤ k → k < blocksN rec.length → U.last.getD (J.first + J.used + k) zeroB = blockB J.n k rec) ∧ (S.armed = 0 → U.armed = 0) := by
      by_cases hone : blocksN rec.length = 1
      · have e1 : S.tailS J rec (blocksN rec.length - 1) 1 = (S, 0) := by rw [hone]; rfl
        refine ⟨S, ?_, h, rfl, fun k h1 h2 => by omega, id⟩
        unfold DS.tailA
        rw [e1, if_neg (by simp), if_pos hone]
      · obtain ⟨hs, hq⟩ := hB.sync hon
        refine ⟨T.sync.1, ?_, hq, ?_, ?_, fun h => ?_⟩
        · unfold DS.tailA
          rw [hT, if_neg (by simp), if_neg hone, hs]
        · rw [hs]
          exact (nowOf_len _ _ _).trans hlen
        · intro k h1 h2
          have e1 : T.sync.1.last = T.now := by
            rw [hs, hB.tied.now]; rfl
          rw [e1]
          exact hin k h1 (by omega)
        · rw [hs]; exact (harm h).1
    rw [hA, if_neg (by simp)]
    unfold DS.headA
    have hpos : J.first + J.used < U.now.length := by have := h.fits; omega
    obtain ⟨a, o, e, hw, heo, hz⟩ := write_on (b := blockB J.n 0 rec) hU.on hpos
    rw [hw]
    -- where the head lasts
    have hgood : Laid (U.last.set (J.first + J.used) (blockB J.n 0 rec)) J0 (rs ++ [rec]) (J.more rec.length) ∧ Bare (U.last.set (J.first + J.used) (blockB J.n 0 rec)) (J.more rec.length) := by
      have hself : (U.last.set (J.first + J.used) (blockB J.n 0 rec)).getD (J.first + J.used) zeroB = blockB J.n 0 rec := by
        rw [List.getD_eq_getElem?_getD, List.getElem?_set_self (by rw [← hU.now]; exact hpos)]; rfl
      have hother : ∀ q, q ≠ J.first + J.used → (U.last.set (J.first + J.used) (blockB J.n 0 rec)).getD q zeroB = U.last.getD q zeroB := fun q hq => by
        rw [List.getD_eq_getElem?_getD, List.getElem?_set_ne (fun e => hq e.symm), List.getD_eq_getElem?_getD]
      constructor
      · refine (hU.laid.congr hU.used fun i hi hi' => hother _ (by omega)).snoc hl (by omega) fun k hk => ?_
        rcases Nat.eq_zero_or_pos k with rfl | hk0
        · exact hself
        · rw [hother _ (by omega)]
          exact hUl k hk0 hk
      · intro i hi hi'
        have e1 : (J.more rec.length).used = J.used + blocksN rec.length := rfl
        have e2 : (J.more rec.length).first = J.first := rfl
        have e3 : (J.more rec.length).size = J.size := rfl
        rw [e2, hother _ (by omega)]
        exact hU.bare i (by omega) (by omega)
    have hfits : J0.first + J0.size ≤ (U.now.set (J.first + J.used) (blockB J.n 0 rec)).length := by rw [List.length_set]; exact hU.fits
    have hws : ∀ kept : Nat → Bool, lastOf kept 0 (U.wait ++ [(J.first + J.used, blockB J.n 0 rec)]) U.last = if kept 0 then U.last.set (J.first + J.used) (blockB J.n 0 rec) else U.last := fun kept => by rw [hU.wait]; rfl
    have htd : ∀ kept, (({ U.put (J.first + J.used) (blockB J.n 0 rec) with armed := a, off := o } : DS).settle kept).now = (({ U.put (J.first + J.used) (blockB J.n 0 rec) with armed := a, off := o } : DS).settle kept).last := fun kept =>
      settle_now ⟨(hU.tied.put _ _).now⟩ (by show U.last.length = (U.now.set _ _).length; rw [List.length_set, hU.now]) kept
    have hnl : ∀ kept, (({ U.put (J.first + J.used) (blockB J.n 0 rec) with armed := a, off := o } : DS).settle kept).now.length = (U.now.set (J.first + J.used) (blockB J.n 0 rec)).length := fun kept => nowOf_len _ _ _
    rcases heo with ⟨rfl, rfl⟩ | ⟨rfl, rfl⟩
    · rw [if_neg (by simp)]
      have hs : (({ U.put (J.first + J.used) (blockB J.n 0 rec) with armed := a, off := false } : DS).sync) = (({ U.put (J.first + J.used) (blockB J.n 0 rec) with armed := a, off := false } : DS).settle (fun _ => true), 0) := by unfold DS.sync; rw [if_neg (by simp)]
      refine ⟨_, _, hs, ?_, fun hh => ⟨(hz (hUa hh)).1, by decide⟩, .inr ⟨by omega, .inl ⟨rfl, rfl, htd _, rfl, by rw [hnl]; exact hfits, hU.used, ?_, ?_⟩⟩⟩
      · rw [hnl, List.length_set]; exact hUn
      · show Laid (lastOf _ 0 (U.wait ++ _) U.last) _ _ _
        rw [hws, if_pos rfl]; exact hgood.1
      · show Bare (lastOf _ 0 (U.wait ++ _) U.last) _
        rw [hws, if_pos rfl]; exact hgood.2
    · rw [if_pos (by simp)]
      refine ⟨_, _, rfl, ?_, fun hh => (by have := (hz (hUa hh)).2; cases this), .inr ⟨by omega, .inr ⟨rfl, rfl, fun keep => ?_⟩⟩⟩
      · show (U.now.set _ _).length = _
        rw [List.length_set]; exact hUn
      · by_cases hk : keep.getD 0 false = true
        · refine ⟨rs ++ [rec], J.more rec.length, .inr rfl, rfl, htd _, rfl, ?_, hU.used, ?_, ?_⟩
          · exact Nat.le_trans hfits (Nat.le_of_eq (hnl fun k => keep.getD k false).symm)
          · show Laid (lastOf _ 0 (U.wait ++ _) U.last) _ _ _
            rw [hws, if_pos hk]; exact hgood.1
          · show Bare (lastOf _ 0 (U.wait ++ _) U.last) _
            rw [hws, if_pos hk]; exact hgood.2
        · refine ⟨rs, J, .inl rfl, rfl, htd _, rfl, ?_, hU.used, ?_, ?_⟩
          · exact Nat.le_trans hfits (Nat.le_of_eq (hnl fun k => keep.getD k false).symm)
          · show Laid (lastOf _ 0 (U.wait ++ _) U.last) _ _ _
            rw [hws, if_neg hk]; exact hU.laid
          · show Bare (lastOf _ 0 (U.wait ++ _) U.last) _
            rw [hws, if_neg hk]; exact hU.bare
end
end Go.Cu
/- Records one behind the other, till one is not answered: plainly. No program. -/
namespace Go.Cu
/-- What a row of appends answers: the records that were answered, the disk, the journal. -/
def DS.fill : List (List UInt8) → DS → Jn → List (List UInt8) × DS × Jn
  | [], S, J => ([], S, J)
  | r :: rs, S, J => if (S.append J r).2 ≠ 0 then ([], (S.append J r).1, J) else let x := DS.fill rs (S.append J r).1 (J.more r.length); (r :: x.1, x.2)
theorem fill_stop {S : DS} {J : Jn} {r : List UInt8} {rs : List (List UInt8)} (h : (S.append J r).2 ≠ 0) : DS.fill (r :: rs) S J = ([], (S.append J r).1, J) := by rw [DS.fill, if_pos h]
theorem fill_go {S : DS} {J : Jn} {r : List UInt8} {rs : List (List UInt8)} (h : (S.append J r).2 = 0) : DS.fill (r :: rs) S J = (r :: (DS.fill rs (S.append J r).1 (J.more r.length)).1, (DS.fill rs (S.append J r).1 (J.more r.length)).2) := by rw [DS.fill, if_neg (by rw [h]; decide)]
theorem Quiet.fill {J0 : Jn} : ∀ (rs : List (List UInt8)) {S : DS} {pre : List (List UInt8)} {J : Jn}, Quiet S J0 pre J → (∀ r ∈ rs, r.length ≤ 65535) →
    ∃ o T K, DS.fill rs S J = (o, T, K) ∧ T.now.length = S.now.length ∧ o = rs.take o.length ∧ o.length ≤ rs.length ∧ (S.armed = 0 → T.armed = 0 ∧ T.off = false) ∧
      (T.off = false ∧ Quiet T J0 (pre ++ o) K ∨ T.off = true ∧ ∃ r, rs[o.length]? = some r ∧ Fallen T J0 (pre ++ o) r)
  | [], S, pre, J, h, _ => ⟨[], S, J, rfl, rfl, rfl, Nat.le_refl _, fun ha => ⟨ha, h.on⟩, .inl ⟨h.on, by rw [List.append_nil]; exact h⟩⟩
  | r :: rs, S, pre, J, h, hl => by
    obtain ⟨T, e, he, hlen, harm, hres⟩ := h.append (hl r (by simp))
    rcases hres with ⟨_, rfl, rfl⟩ | ⟨_, ⟨rfl, hq⟩ | ⟨rfl, hf⟩⟩
    · rw [fill_stop (by rw [he]; simp), he]
      exact ⟨[], T, J, rfl, rfl, rfl, Nat.zero_le _, fun ha => ⟨ha, h.on⟩, .inl ⟨h.on, by rw [List.append_nil]; exact h⟩⟩
    · rw [fill_go (by rw [he]), he]
      obtain ⟨o, U, K, h1, h2, h3, h4, h5, h6⟩ := Quiet.fill rs hq (fun q hq => hl q (by simp [hq]))
      rw [h1]
      refine ⟨r :: o, U, K, rfl, h2.trans hlen, ?_, by simpa using h4, fun ha => h5 (harm ha).1, ?_⟩
      · rw [List.length_cons, List.take_succ_cons, ← h3]
      · rw [List.length_cons, List.getElem?_cons_succ, show pre ++ r :: o = pre ++ [r] ++ o by simp]
        exact h6
    · rw [fill_stop (by rw [he]; simp), he]
      exact ⟨[], T, J, rfl, hlen, rfl, Nat.zero_le _, fun ha => absurd rfl (harm ha).2, .inr ⟨hf.off, r, rfl, by rw [List.append_nil]; exact hf⟩⟩
/-- Behind a fall of the power, or none, and a crash. -/
theorem Quiet.fall {J0 : Jn} {rs : List (List UInt8)} {S : DS} {pre : List (List UInt8)} {J : Jn} (h : Quiet S J0 pre J) (hl : ∀ r ∈ rs, r.length ≤ 65535) (keep : List Bool) :
    ∃ got K, readR ((DS.fill rs S J).2.1.crash keep).now J0.size J0 = (got, K) ∧ Quiet ((DS.fill rs S J).2.1.crash keep) J0 got K ∧
      ((DS.fill rs S J).2.1.off = false ∧ got = pre ++ (DS.fill rs S J).1 ∨ (DS.fill rs S J).2.1.off = true ∧ ∃ r, rs[(DS.fill rs S J).1.length]? = some r ∧ (got = pre ++ (DS.fill rs S J).1 ∨ got = pre ++ (DS.fill rs S J).1 ++ [r])) := by
  obtain ⟨o, T, K, h1, _, _, _, _, h6⟩ := h.fill rs hl
  rw [h1]
  rcases h6 with ⟨ho, hq⟩ | ⟨ho, r, hr, hf⟩
  · exact ⟨_, _, (hq.crash keep).read (Nat.le_refl _), hq.crash keep, .inl ⟨ho, rfl⟩⟩
  · obtain ⟨rs', K', hor, hq⟩ := hf.then_ keep
    exact ⟨rs', K', hq.read (Nat.le_refl _), hq, .inr ⟨ho, r, hr, hor⟩⟩

/-! A disk of noughts. -/
structure Zeros (N : Nat) (S : DS) : Prop where
  now : S.now = List.replicate N zeroB
  last : S.last = List.replicate N zeroB
  wait : ∀ p ∈ S.wait, p.2 = zeroB
  off : S.off = false
  armed : S.armed = 0
theorem set_zero (N i : Nat) : (List.replicate N zeroB).set i zeroB = List.replicate N zeroB := by
  refine List.ext_getElem? fun j => ?_
  by_cases e : i = j
  · subst e
    by_cases hi : i < N
    · rw [List.getElem?_set_self (by simpa using hi)]; simp [hi]
    · rw [List.set_eq_of_length_le (by simp; omega)]
  · rw [List.getElem?_set_ne e]
theorem lastOf_zero (kept : Nat → Bool) (N : Nat) : ∀ (l : List (Nat × Blk8)) (k : Nat), (∀ p ∈ l, p.2 = zeroB) → lastOf kept k l (List.replicate N zeroB) = List.replicate N zeroB
  | [], _, _ => rfl
  | p :: l, k, h => by
    rw [lastOf, h p (by simp), set_zero, ite_self]
    exact lastOf_zero kept N l (k + 1) fun q hq => h q (by simp [hq])
theorem nowOf_zero (N : Nat) : ∀ (l : List (Nat × Blk8)), nowOf (List.replicate N zeroB) l (List.replicate N zeroB) = List.replicate N zeroB
  | [] => rfl
  | p :: l => by
    have e : (List.replicate N zeroB).getD p.1 zeroB = zeroB := by
      rw [List.getD_eq_getElem?_getD, List.getElem?_replicate]; split <;> rfl
    rw [nowOf, e, set_zero]
    exact nowOf_zero N l
theorem Zeros.new (N : Nat) : Zeros N (DS.new N) := ⟨rfl, rfl, (by intro p hp; cases hp), rfl, rfl⟩
theorem Zeros.wipe {N : Nat} : ∀ (m p : Nat) {S : DS}, Zeros N S → p + m ≤ N → (S.wipe m p).2 = 0 ∧ (S.wipe m p).1.wait = [] ∧ Zeros N (S.wipe m p).1
  | 0, p, S, h, _ => by
    have e : S.wipe 0 p = (S.settle (fun _ => true), 0) := by
      rw [DS.wipe]; unfold DS.sync; rw [if_neg (by rw [h.off]; decide)]
    rw [e]
    have hl : (S.settle fun _ => true).last = List.replicate N zeroB := by
      show lastOf _ 0 S.wait S.last = _
      rw [h.last]; exact lastOf_zero _ _ _ _ h.wait
    refine ⟨rfl, rfl, ?_, hl, fun p hp => (by cases hp), h.off, h.armed⟩
    show nowOf (lastOf _ 0 S.wait S.last) S.wait S.now = _
    rw [h.last, lastOf_zero _ _ _ _ h.wait, h.now]
    exact nowOf_zero _ _
  | m + 1, p, S, h, hp => by
    obtain ⟨a, o, e, hw, heo, hz⟩ := write_on (S := S) (i := p) (b := zeroB) h.off (by rw [h.now, List.length_replicate]; omega)
    obtain ⟨rfl, rfl⟩ := hz h.armed
    rcases heo with ⟨rfl, _⟩ | ⟨_, h0⟩
    · rw [wipe_go (by rw [hw]), hw]
      refine Zeros.wipe m (p + 1) ⟨?_, h.last, ?_, rfl, rfl⟩ (by omega)
      · show S.now.set p zeroB = _
        rw [h.now, set_zero]
      · intro q hq
        rcases List.mem_append.1 hq with hq | hq
        · exact h.wait q hq
        · obtain rfl := List.mem_singleton.1 hq
          rfl
    · cases h0
/-- A journal of no records. -/
theorem Zeros.quiet {N : Nat} {S : DS} (h : Zeros N S) (hw : S.wait = []) (J : Jn) (hu : J.used ≤ J.size) (hf : J.first + J.size ≤ N) : Quiet S J [] J := by
  refine ⟨hw, by rw [h.now, h.last], h.off, by rw [h.now, List.length_replicate]; exact hf, hu, rfl, fun i _ _ => ?_⟩
  rw [h.last, List.getD_eq_getElem?_getD, List.getElem?_replicate]
  split
  · simp [zeroB]
  · simp [zeroB]
theorem Zeros.fresh {N m p : Nat} (hp : p + m ≤ N) : ((DS.new N).wipe m p).2 = 0 ∧ ((DS.new N).wipe m p).1.armed = 0 ∧ ((DS.new N).wipe m p).1.now.length = N ∧ Quiet ((DS.new N).wipe m p).1 ⟨p, m, 0, 0⟩ [] ⟨p, m, 0, 0⟩ := by
  obtain ⟨h1, h2, h3⟩ := (Zeros.new N).wipe m p hp
  exact ⟨h1, h3.armed, by rw [h3.now, List.length_replicate], h3.quiet h2 _ (Nat.zero_le _) hp⟩
/-- Where the power goes off within the blocks behind the head. -/
theorem tailS_falls {J : Jn} {rec : List UInt8} : ∀ (m k : Nat) {S : DS}, S.off = false → 0 < S.armed → S.armed ≤ m → J.first + J.used + k + m ≤ S.now.length → (S.tailS J rec m k).2 = 13
  | 0, _, _, _, h1, h2, _ => by omega
  | m + 1, k, S, h0, h1, h2, h3 => by
    have h4 : S.at_ ((J.first + J.used + k : Nat) : Int) = 0 := by
      unfold DS.at_
      rw [h0]
      simp only [Bool.false_eq_true, if_false]
      rw [if_neg (by omega)]
    have hw : S.write ((J.first + J.used + k : Nat) : Int) (blockB J.n k rec) = (S.put (J.first + J.used + k) (blockB J.n k rec)).tick := by
      unfold DS.write
      rw [h4, if_neg (by decide), Int.toNat_natCast]
    by_cases ha : 0 < S.armed - 1
    · rw [DS.put_tick1 (by omega) ha] at hw
      rw [tailS_go (by rw [hw]), hw]
      refine tailS_falls m (k + 1) h0 ha (by show S.armed - 1 ≤ _; omega) ?_
      show _ ≤ (S.now.set _ _).length
      rw [List.length_set]; omega
    · rw [DS.put_tick2 (by omega) ha] at hw
      rw [tailS_stop (by rw [hw]; simp), hw]
end Go.Cu
/- Two journals on one disk. No program. -/
namespace Go.Cu
/-- Blocks alike outside of a stretch. -/
structure Out (p q : Nat) (g g' : List Blk8) : Prop where
  len : g'.length = g.length
  out : ∀ i, i < p ∨ q ≤ i → g'.getD i zeroB = g.getD i zeroB
theorem Out.refl (p q : Nat) (g : List Blk8) : Out p q g g := ⟨rfl, fun _ _ => rfl⟩
theorem Out.trans {p q : Nat} {a b c : List Blk8} (h : Out p q a b) (h' : Out p q b c) : Out p q a c := ⟨h'.len.trans h.len, fun i hi => (h'.out i hi).trans (h.out i hi)⟩
theorem Out.wider {p q p' q' : Nat} {a b : List Blk8} (h : Out p q a b) (hp : p' ≤ p) (hq : q ≤ q') : Out p' q' a b := ⟨h.len, fun i hi => h.out i (by omega)⟩
theorem Out.set {p q i : Nat} (g : List Blk8) (hp : p ≤ i) (hq : i < q) (b : Blk8) : Out p q g (g.set i b) := ⟨List.length_set, fun j hj => by
  rw [List.getD_eq_getElem?_getD, List.getElem?_set_ne (by omega), List.getD_eq_getElem?_getD]⟩
theorem Flatd.tailS {J : Jn} {rec : List UInt8} : ∀ (m k : Nat) {S : DS} {g : List Blk8} {N : Nat}, Flatd g N S → J.first + J.used + k + m ≤ g.length →
    ∃ g', Flatd g' (N + m) (S.tailS J rec m k).1 ∧ (S.tailS J rec m k).2 = 0 ∧ Out (J.first + J.used + k) (J.first + J.used + k + m) g g'
  | 0, _, S, g, N, h, _ => ⟨g, h, rfl, Out.refl _ _ _⟩
  | m + 1, k, S, g, N, h, hl => by
    obtain ⟨h1, h2⟩ := h.write (i := J.first + J.used + k) (by omega) (blockB_len J.n k rec)
    obtain ⟨g', h3, h4, h5⟩ := Flatd.tailS (J := J) (rec := rec) m (k + 1) h1 (by rw [List.length_set]; omega)
    rw [tailS_go h2]
    refine ⟨g', by rw [show N + (m + 1) = N + 1 + m by omega]; exact h3, h4, ?_⟩
    exact (Out.set g (Nat.le_refl _) (by omega) _).trans (h5.wider (by omega) (by omega))
theorem Flatd.append {J : Jn} {rec : List UInt8} {S : DS} {g : List Blk8} {N : Nat} (h : Flatd g N S) (hw : S.wait = []) (hl : S.last = g) (hu : J.used ≤ J.size) (hf : J.first + J.size ≤ g.length) :
    ∃ g', Flatd g' (N + 700) (S.append J rec).1 ∧ (S.append J rec).1.wait = [] ∧ (S.append J rec).1.last = g' ∧ Out J.first (J.first + J.size) g g' := by
  have hstay : ∃ g', Flatd g' (N + 700) S ∧ S.wait = [] ∧ S.last = g' ∧ Out J.first (J.first + J.size) g g' := ⟨g, ⟨h.ok.mono (by omega), h.td, h.off, h.arm, h.now⟩, hw, hl, Out.refl _ _ _⟩
  unfold DS.append
  by_cases hbig : 65535 < rec.length
  · rw [if_pos hbig]; exact hstay
  rw [if_neg hbig]
  by_cases hfull : J.size - J.used < blocksN rec.length
  · rw [if_pos hfull]; exact hstay
  rw [if_neg hfull]
  have hnb := blocksN_pos rec.length
  have hnb2 : blocksN rec.length ≤ 600 := by unfold blocksN; omega
  obtain ⟨g1, t1, t2, t3⟩ := h.tailS (J := J) (rec := rec) (blocksN rec.length - 1) 1 (by omega)
  obtain ⟨g2, u1, u2, u3⟩ : ∃ g2, Flatd g2 (N + (blocksN rec.length - 1)) (S.tailA J rec).1 ∧ (S.tailA J rec).2 = 0 ∧ Out J.first (J.first + J.size) g g2 := by
    have ho := t3.wider (p' := J.first) (q' := J.first + J.size) (by omega) (by omega)
    unfold DS.tailA
    rw [if_neg (by rw [t2]; decide)]
    split
    · exact ⟨g1, t1, rfl, ho⟩
    · exact ⟨g1, t1.sync.1, t1.sync.2.1, ho⟩
  rw [if_neg (by rw [u2]; decide)]
  obtain ⟨v1, v2⟩ := u1.write (i := J.first + J.used) (by rw [u3.len]; omega) (blockB_len J.n 0 rec)
  unfold DS.headA
  rw [if_neg (by rw [v2]; decide)]
  obtain ⟨s1, _, s3, s4⟩ := v1.sync
  exact ⟨_, ⟨s1.ok.mono (by omega), s1.td, s1.off, s1.arm, s1.now⟩, s3, s4, u3.trans (Out.set g2 (by omega) (by omega) _)⟩
theorem Flatd.zeros : ∀ (m p : Nat) {S : DS} {g : List Blk8} {N : Nat}, Flatd g N S → p + m ≤ g.length →
    ∃ g', Flatd g' (N + m) (S.zeros m p).1 ∧ (S.zeros m p).2 = 0 ∧ (S.zeros m p).1.wait = [] ∧ (S.zeros m p).1.last = g' ∧ Out p (p + m) g g' ∧ ∀ i, p ≤ i → i < p + m → g'.getD i zeroB = zeroB
  | 0, p, S, g, N, h, _ => by
    obtain ⟨s1, s2, s3, s4⟩ := h.sync
    exact ⟨g, s1, s2, s3, s4, Out.refl _ _ _, fun i h1 h2 => absurd h2 (by omega)⟩
  | m + 1, p, S, g, N, h, hl => by
    have hz : ∃ g1, Flatd g1 (N + 1) (S.zstep p).1 ∧ (S.zstep p).2 = 0 ∧ Out p (p + 1) g g1 ∧ g1.getD p zeroB = zeroB := by
      unfold DS.zstep
      rw [if_neg (by rw [at_in (by rw [h.now]; omega), h.off]; decide)]
      by_cases e : S.now.getD p zeroB = zeroB
      · rw [if_pos e]
        exact ⟨g, ⟨h.ok.mono (by omega), h.td, h.off, h.arm, h.now⟩, rfl, Out.refl _ _ _, by rw [← h.now]; exact e⟩
      · rw [if_neg e]
        obtain ⟨h1, h2⟩ := h.write (i := p) (by omega) zeroB_len
        exact ⟨_, h1, h2, Out.set g (Nat.le_refl _) (by omega) _, by rw [getD_set (by omega), if_pos rfl]⟩
    obtain ⟨g1, z1, z2, z3, z4⟩ := hz
    obtain ⟨g', h1, h2, h3, h4, h5, h6⟩ := Flatd.zeros m (p + 1) z1 (by rw [z3.len]; omega)
    have e : S.zeros (m + 1) p = (S.zstep p).1.zeros m (p + 1) := by rw [DS.zeros, if_neg (by rw [z2]; decide)]
    rw [e]
    refine ⟨g', by rw [show N + (m + 1) = N + 1 + m by omega]; exact h1, h2, h3, h4, (z3.wider (Nat.le_refl _) (by omega)).trans (h5.wider (by omega) (by omega)), fun i hi1 hi2 => ?_⟩
    by_cases hip : i = p
    · subst hip
      rw [h5.out i (by omega)]; exact z4
    · exact h6 i (by omega) (by omega)
/-- A journal that lies elsewhere is as it was. -/
theorem Quiet.elsewhere {S T : DS} {J0 J : Jn} {rs : List (List UInt8)} {p q : Nat} (h : Quiet S J0 rs J) (ho : Out p q S.last T.last) (hw : T.wait = []) (hn : T.now = T.last) (hon : T.off = false) (hd : J0.first + J0.size ≤ p ∨ q ≤ J0.first) : Quiet T J0 rs J := by
  obtain ⟨f1, f2, f3, f4, f5⟩ := h.laid.facts h.used
  refine ⟨hw, hn, hon, by rw [hn, ho.len, ← h.now]; exact h.fits, h.used, h.laid.congr h.used (fun i h1 h2 => ho.out _ (by omega)), fun i h1 h2 => ?_⟩
  rw [ho.out _ (by omega)]
  exact h.bare i h1 h2
/-- Where a journal of this law lies. -/
abbrev seatJ (i : Nat) : Jn := ⟨4 + i * 12, 12, 0, 0⟩
/-- The disk of 40 blocks with two journals, of which all lasts. -/
structure Two (S : DS) (N : Nat) (rs : Nat → List (List UInt8)) (J : Nat → Jn) : Prop where
  flat : Flatd S.now N S
  wait : S.wait = []
  last : S.last = S.now
  len : S.now.length = 40
  at_ : ∀ i, i < 2 → Quiet S (seatJ i) (rs i) (J i)
  third : ∀ i, 28 ≤ i → S.now.getD i zeroB = zeroB
def upd {α : Type} (f : Nat → α) (i : Nat) (x : α) : Nat → α := fun k => if k = i then x else f k
theorem upd_at {α : Type} (f : Nat → α) (i : Nat) (x : α) : upd f i x i = x := if_pos rfl
theorem upd_ne {α : Type} (f : Nat → α) {i k : Nat} (x : α) (h : k ≠ i) : upd f i x k = f k := if_neg h
theorem Two.new : Two (DS.new 40) 0 (fun _ => []) seatJ := by
  have hz : Zeros 40 (DS.new 40) := Zeros.new 40
  refine ⟨Flatd.new (by decide), rfl, rfl, by decide, fun i hi => hz.quiet rfl _ (Nat.zero_le _) (by show 4 + i * 12 + 12 ≤ 40; omega), fun i _ => ?_⟩
  show (List.replicate 40 zeroB).getD i zeroB = zeroB
  rw [List.getD_eq_getElem?_getD, List.getElem?_replicate]
  split <;> rfl
theorem Two.mk' {S T : DS} {N M : Nat} {rs : Nat → List (List UInt8)} {J : Nat → Jn} {g' : List Blk8} {i : Nat} (h : Two S N rs J) (hi : i < 2) (h1 : Flatd g' M T) (h2 : T.wait = []) (h3 : T.last = g') (h4 : Out (4 + i * 12) (4 + i * 12 + 12) S.now g') {ri : List (List UInt8)} {Ji : Jn} (hq : Quiet T (seatJ i) ri Ji) : Two T M (upd rs i ri) (upd J i Ji) := by
  have hn := h1.now
  refine ⟨by rw [hn]; exact h1, h2, by rw [hn, h3], by rw [hn, h4.len, h.len], fun k hk => ?_, fun k hk => by rw [hn, h4.out k (by omega)]; exact h.third k hk⟩
  by_cases hki : k = i
  · subst hki
    rw [upd_at, upd_at]; exact hq
  · rw [upd_ne _ _ hki, upd_ne _ _ hki]
    exact (h.at_ k hk).elsewhere (p := 4 + i * 12) (q := 4 + i * 12 + 12) (by rw [h.last, h3]; exact h4) h2 (by rw [hn, h3]) h1.off (by show 4 + k * 12 + 12 ≤ _ ∨ _ ≤ 4 + k * 12; omega)
theorem Two.jn {S : DS} {N : Nat} {rs : Nat → List (List UInt8)} {J : Nat → Jn} (h : Two S N rs J) {i : Nat} (hi : i < 2) : (J i).first = 4 + i * 12 ∧ (J i).size = 12 ∧ (J i).used ≤ 12 := by
  obtain ⟨f1, f2, f3, f4, f5⟩ := (h.at_ i hi).laid.facts (h.at_ i hi).used
  exact ⟨f1, f2, by rw [f2] at f5; exact f5⟩
/-- A record more, or none where it has no room. -/
theorem Two.append {S : DS} {N : Nat} {rs : Nat → List (List UInt8)} {J : Nat → Jn} (h : Two S N rs J) {i : Nat} (hi : i < 2) {rec : List UInt8} (hl : rec.length ≤ 65535) :
    ((S.append (J i) rec).2 = 0 ∧ Two (S.append (J i) rec).1 (N + 700) (upd rs i (rs i ++ [rec])) (upd J i ((J i).more rec.length))) ∨
    ((S.append (J i) rec).2 ≠ 0 ∧ (S.append (J i) rec).1 = S) := by
  obtain ⟨j1, j2, j3⟩ := h.jn hi
  obtain ⟨T, e, ha, _, hz, hres⟩ := (h.at_ i hi).append hl
  obtain ⟨g', f1, f2, f3, f4⟩ := h.flat.append (J := J i) (rec := rec) h.wait h.last (by omega) (by rw [h.len]; omega)
  rw [ha] at f1 f2 f3 ⊢
  rcases hres with ⟨_, rfl, rfl⟩ | ⟨_, ⟨rfl, hq⟩ | ⟨rfl, _⟩⟩
  · exact .inr ⟨by show (7 : Int) ≠ 0; decide, rfl⟩
  · exact .inl ⟨rfl, h.mk' hi f1 f2 f3 (by rw [j1, j2] at f4; exact f4) hq⟩
  · exact absurd rfl (hz h.flat.arm).2
/-- Its first extent zeroed. -/
theorem Two.zero {S : DS} {N : Nat} {rs : Nat → List (List UInt8)} {J : Nat → Jn} (h : Two S N rs J) : (S.zeros 12 4).2 = 0 ∧ Two (S.zeros 12 4).1 (N + 12) (upd rs 0 []) (upd J 0 (seatJ 0)) := by
  obtain ⟨g', h1, h2, h3, h4, h5, h6⟩ := h.flat.zeros 12 4 (by rw [h.len]; decide)
  refine ⟨h2, h.mk' (i := 0) (by decide) h1 h3 h4 h5 ⟨h3, by rw [h1.now, h4], h1.off, by rw [h1.now, h5.len, h.len]; decide, Nat.zero_le _, rfl, fun k _ hk => ?_⟩⟩
  rw [h4, h6 _ (by show 4 ≤ 4 + 0 * 12 + k; omega) (by have hk2 : k < 12 := hk; show 4 + 0 * 12 + k < 16; omega)]
  decide
theorem Two.crash {S : DS} {N : Nat} {rs : Nat → List (List UInt8)} {J : Nat → Jn} (h : Two S N rs J) (keep : List Bool) : Two (S.crash keep) N rs J := by
  have e2 : (S.crash keep).now = S.now := crash_nowait h.wait keep
  have e1 : (S.crash keep).last = S.last := by simp [DS.crash, DS.settle, h.wait, lastOf]
  exact ⟨⟨h.flat.ok.crash keep, h.flat.td.crash (by rw [h.last]) keep, rfl, rfl, rfl⟩, rfl, by rw [e1, e2, h.last], by rw [e2, h.len], fun i hi => (h.at_ i hi).crash keep, fun i hi => by rw [e2]; exact h.third i hi⟩
theorem Two.read {S : DS} {N : Nat} {rs : Nat → List (List UInt8)} {J : Nat → Jn} (h : Two S N rs J) {i : Nat} (hi : i < 2) : readR S.now 12 (seatJ i) = (rs i, J i) := (h.at_ i hi).read (Nat.le_refl _)
theorem Two.clear {S : DS} {N : Nat} {rs : Nat → List (List UInt8)} {J : Nat → Jn} (h : Two S N rs J) : S.clear 28 12 = true := clear_iff.2 fun i _ => h.third _ (by omega)
end Go.Cu
/- Byte arrays by value: the generic laws (over any program) of loads, indexes, stores and comparisons of arrays of bytes. -/
namespace Go.Cu
open Go Go.RowKit

theorem hid {p : Prop} (h : p) : Hid p := h
theorem heap_alloc_at {w : World} (o : Obj) (n : Nat) (hn : n = w.heap.size) : (w.alloc o).heap[n]? = some o := by subst hn; exact heap_alloc_new w o
theorem heap_alloc_past {w : World} (o : Obj) (n : Nat) (hn : n < w.heap.size) : (w.alloc o).heap[n]? = w.heap[n]? := Below.heap_alloc w o n hn
/-- Outside the blocks of F (and what is new) nothing has turned. -/
structure Tch (F : Nat → Prop) (w w' : World) : Prop where
  os : w'.os = w.os
  tape : w'.tape = w.tape
  output : w'.output = w.output
  size : w.heap.size ≤ w'.heap.size
  block : ∀ k, k < w.heap.size → ¬ F k → w'.heap[k]? = w.heap[k]?
theorem Tch.refl (F : Nat → Prop) (w : World) : Tch F w w := ⟨rfl, rfl, rfl, Nat.le_refl _, fun _ _ _ => rfl⟩
theorem Tch.trans {F G H : Nat → Prop} {a b c : World} (h : Tch F a b) (k : Tch G b c) (hF : ∀ i, F i → H i) (hG : ∀ i, i < a.heap.size → G i → H i) : Tch H a c :=
  ⟨k.os.trans h.os, k.tape.trans h.tape, k.output.trans h.output, Nat.le_trans h.size k.size, fun i hi hn =>
    (k.block i (Nat.lt_of_lt_of_le hi h.size) (fun g => hn (hG i hi g))).trans (h.block i hi (fun f => hn (hF i f)))⟩
theorem Tch.mono {F G : Nat → Prop} {a b : World} (h : Tch F a b) (hF : ∀ i, i < a.heap.size → F i → G i) : Tch G a b :=
  ⟨h.os, h.tape, h.output, h.size, fun i hi hn => h.block i hi (fun f => hn (hF i hi f))⟩
theorem Tch.below {F : Nat → Prop} {a b : World} {B : Nat} (h : Tch F a b) (hB : B ≤ a.heap.size) (hF : ∀ i, F i → B ≤ i) : Below B a b :=
  ⟨h.os, h.tape, h.output, h.size, fun i hi => h.block i (by omega) (fun f => by have := hF i f; omega)⟩
theorem Tch.of_below {F : Nat → Prop} {a b : World} (h : Below a.heap.size a b) : Tch F a b :=
  ⟨h.os, h.tape, h.output, h.size, fun i hi _ => h.block i hi⟩
theorem Tch.setCell {F : Nat → Prop} {a b : World} (h : Tch F a b) {g i : Nat} (hg : F g) (v : Value) : Tch F a (b.setCell ⟨g, i, none⟩ v) :=
  ⟨h.os, h.tape, h.output, by simpa using h.size, fun k hk hn => (Below.heap_setCell b ⟨g, i, none⟩ v k (fun e => hn (by rw [e]; exact hg))).trans (h.block k hk hn)⟩
/-- Bytes as cells. -/
def bv (l : List UInt8) : Array Value := (l.map fun b => Value.int .u8 b.toNat).toArray
/-- A byte as a number. -/
def bt (l : List UInt8) (i : Nat) : Int := ((l.getD i 0).toNat : Int)
theorem bt_ge (l : List UInt8) (i : Nat) : 0 ≤ bt l i := by unfold bt; omega
theorem bt_lt (l : List UInt8) (i : Nat) : bt l i < 256 := by unfold bt; have := (l.getD i 0).toNat_lt; omega
theorem bv_get (l : List UInt8) (i : Nat) (h : i < l.length) : (bv l)[i]? = some (.int .u8 (bt l i)) := by
  simp [bv, bt, h]
theorem bv_size (l : List UInt8) : (bv l).size = l.length := by simp [bv]
theorem bv_toList (l : List UInt8) : (bv l).toList = l.map fun b => Value.int .u8 b.toNat := by simp [bv]
theorem bv_one (l : List UInt8) : ∀ u ∈ (bv l).toList, u.oneCell' = true := by
  intro u hu
  simp only [bv_toList, List.mem_map] at hu
  obtain ⟨b, _, rfl⟩ := hu
  rfl
theorem bv_inj {l m : List UInt8} (h : bv l = bv m) : l = m := by
  have h' := congrArg Array.toList h
  simp only [bv_toList] at h'
  refine (List.map_inj_right ?_).1 h'
  intro a b e
  injection e with _ e
  exact UInt8.toNat_inj.1 (by omega)

/-- The elements' type is of one cell of a byte. -/
structure ByteElem (P : Program) (e : TypeId) : Prop where
  size : (P.info? e).map (·.size) = some 1
  und : P.underlying e = some (.int .u8)

section
variable {P : Program} {t e : TypeId} {n : Nat}

theorem run_sizeOf {s : Nat} (hi : (P.info? e).map (·.size) = some s) (w : World) : (sizeOf e).run P w = .ok s w := by
  cases hq : P.info? e with
  | none => simp [hq] at hi
  | some d =>
    have hs : d.size = s := by simpa [hq] using hi
    simp [sizeOf, typeInfo, hq, hs]

theorem run_isAgg_no (h : P.underlying e = some (.int .u8)) (w : World) : (isAgg e).run P w = .ok false w := by
  simp [isAgg, run_underlying h]

theorem run_isAgg_yes {d : TypeDesc} (h : P.underlying e = some d) (hd : (match d with | .struct _ | .array _ _ => true | _ => false) = true) (w : World) : (isAgg e).run P w = .ok true w := by
  unfold isAgg
  rw [Sem.run_bind, run_underlying h w]
  cases d <;> simp_all

theorem run_part_bv (he : ByteElem P e) (l : List UInt8) (i : Nat) (h : i < l.length) (w : World) : (part e (bv l) i).run P w = .ok (.int .u8 (bt l i)) w := by
  simp [part, run_isAgg_no he.und, bv_get l i h]

theorem run_index_bv (ht : P.underlying t = some (.array n e)) (he : ByteElem P e)
    (l : List UInt8) (hl : l.length = n) (i : Nat) (h : i < n) (w : World) :
    (Instr.index t (.agg (bv l)) (.int .i64 i)).run P w = .ok (.int .u8 (bt l i)) w := by
  have hin : ¬ (n ≤ i) := by omega
  simp [Instr.index, asIntOf, run_underlying ht, hin, run_sizeOf he.size, run_part_bv he l i (hl ▸ h)]

theorem load_cells_of (w : World) (g off : Nat) (t' : TypeId) (cs vs : Array Value) (fr : Nat × Nat) (hg : w.heap[g]? = some (.cells cs t' fr))
    (hv : ∀ j, j < vs.size → cs[off + j]? = vs[j]?) : (loadCells ⟨g, off, none⟩ vs.size).run P w = .ok vs w := by
  have hl : (loadCells ⟨g, off, none⟩ vs.toList.length).run P w = .ok vs.toList.toArray w :=
    run_loadCells_list (P := P) w ⟨g, off, none⟩ vs.toList (fun j v hj => by
      have hadd : (⟨g, off, none⟩ : Addr).add j = ⟨g, off + j, none⟩ := by unfold Addr.add; split <;> simp_all
      have hlt : j < vs.size := by
        rcases Nat.lt_or_ge j vs.size with h | h
        · exact h
        · rw [List.getElem?_eq_none (by simpa using h)] at hj; cases hj
      rw [hadd, cell_of_row w g (off + j) cs t' fr hg, hv j hlt]
      simpa using hj)
  simpa using hl

/-- An aggregate loaded out of a block that is known whole. -/
theorem run_loadVar_part (w : World) (g off : Nat) (t' ty : TypeId) (cs vs : Array Value) (fr : Nat × Nat) {d : TypeDesc} (hg : w.heap[g]? = some (.cells cs t' fr))
    (hu : P.underlying ty = some d) (hd : (match d with | .struct _ | .array _ _ => true | _ => false) = true) (hi : (P.info? ty).map (·.size) = some vs.size)
    (hv : ∀ j, j < vs.size → cs[off + j]? = vs[j]?) :
    (loadVar ty ⟨g, off, none⟩).run P w = .ok (.agg vs) w := by
  simp [loadVar, Sem.run_bind, run_isAgg_yes hu hd, run_sizeOf hi, load_cells_of w g off t' cs vs fr hg hv]

theorem wp_load_part {o : Oper} {a : Act} {w : World} {K : Act → World → Prop} {Q : Exit → Act → World → Prop} (ty : TypeId) (x : Operand) (ho : o.op = .load ty x)
    (g off : Nat) (hx : a.eval x = .pointer (some ⟨g, off, none⟩)) (t' : TypeId) (cs vs : Array Value) (fr : Nat × Nat) (d : TypeDesc) (hu : P.underlying ty = some d)
    (hd : (match d with | .struct _ | .array _ _ => true | _ => false) = true) (hg : w.heap[g]? = some (.cells cs t' fr)) (hi : (P.info? ty).map (·.size) = some vs.size)
    (hv : ∀ j, j < vs.size → cs[off + j]? = vs[j]?)
    (h : K (a.put o.dst (.agg vs)) w) : o.wp P a w K Q := by
  unfold Oper.wp execOp
  simp only [ho, hx, Instr.loadAt, Instr.sureAddr, Sem.run_bind, Sem.run_pure, Result.andThen_ok, run_loadVar_part w g off t' ty cs vs fr hg hu hd hi hv]
  exact h

/-- A load of an aggregate out of a block that is known whole. -/
theorem wpList_load_part {ops : Array Oper} {rest : List Oper} {o : Oper} {a : Act} {w : World} {Q : Exit → Act → World → Prop} (hgd : o.guard = none) (ty : TypeId) (x : Operand) (ho : o.op = .load ty x)
    (g off : Nat) (hx : a.eval x = .pointer (some ⟨g, off, none⟩)) (t' : TypeId) (cs vs : Array Value) (fr : Nat × Nat) (d : TypeDesc) (hu : P.underlying ty = some d)
    (hd : (match d with | .struct _ | .array _ _ => true | _ => false) = true) (hg : w.heap[g]? = some (.cells cs t' fr)) (hi : (P.info? ty).map (·.size) = some vs.size)
    (hv : ∀ j, j < vs.size → cs[off + j]? = vs[j]?)
    (h : wpList P ops Q rest (a.put o.dst (.agg vs)) w) : wpList P ops Q (o :: rest) a w :=
  wpList_plain hgd fun _ hK => wp_load_part ty x ho g off hx t' cs vs fr d hu hd hg hi hv (hK _ _ h)

/-- The same, the whole of it. -/
theorem wpList_load_box {ops : Array Oper} {rest : List Oper} {o : Oper} {a : Act} {w : World} {Q : Exit → Act → World → Prop} (hgd : o.guard = none) (ty : TypeId) (x : Operand) (ho : o.op = .load ty x)
    (g : Nat) (hx : a.eval x = .pointer (some ⟨g, 0, none⟩)) (d : TypeDesc) (hu : P.underlying ty = some d)
    (hd : (match d with | .struct _ | .array _ _ => true | _ => false) = true) (n : Nat) (hi : (P.info? ty).map (·.size) = some n) (t' : TypeId) (cs : Array Value) (fr : Nat × Nat) (hn : cs.size = n) (hg : w.heap[g]? = some (.cells cs t' fr))
    (h : wpList P ops Q rest (a.put o.dst (.agg cs)) w) : wpList P ops Q (o :: rest) a w :=
  wpList_load_part hgd ty x ho g 0 hx t' cs cs fr d hu hd hg (hn ▸ hi) (fun j _ => by simp) h

theorem wpList_wanted {ops : Array Oper} {rest : List Oper} {o : Oper} {a : Act} {w : World} {Q : Exit → Act → World → Prop} (hw : Region.wanted o (yielded ops a.tmps) = true)
    (h : ∀ K : Act → World → Prop, (∀ a w, wpList P ops Q rest a w → K a w) → o.wp P a w K Q) : wpList P ops Q (o :: rest) a w :=
  wpList_step fun K hK => by rw [if_pos hw]; exact h K hK
/-- A load of an aggregate that is known, its guard saying yes. -/
theorem wpList_load_at {ops : Array Oper} {rest : List Oper} {o : Oper} {a : Act} {w : World} {Q : Exit → Act → World → Prop} (ty : TypeId) (x : Operand) (ho : o.op = .load ty x)
    (g : Nat) (hx : a.eval x = .pointer (some ⟨g, 0, none⟩)) (hw : Region.wanted o (yielded ops a.tmps) = true) (d : TypeDesc) (hu : P.underlying ty = some d)
    (hd : (match d with | .struct _ | .array _ _ => true | _ => false) = true) (n : Nat) (hi : (P.info? ty).map (·.size) = some n) (t' : TypeId) (cs : Array Value) (fr : Nat × Nat) (hg : w.heap[g]? = some (.cells cs t' fr)) (hn : cs.size = n)
    (h : wpList P ops Q rest (a.put o.dst (.agg cs)) w) : wpList P ops Q (o :: rest) a w :=
  wpList_wanted hw fun _ hK => wp_load_part ty x ho g 0 hx t' cs cs fr d hu hd hg (hn ▸ hi) (fun j _ => by simp) (hK _ _ h)

/-- Cells written into an array from a place on. -/
def putAt (cs : Array Value) (o : Nat) (vs : List Value) : Array Value := (cs.toList.take o ++ vs ++ cs.toList.drop (o + vs.length)).toArray
theorem putAt_all (cs vs : Array Value) (h : cs.size = vs.size) : putAt cs 0 vs.toList = vs := by
  unfold putAt
  rw [List.take_zero, List.drop_eq_nil_of_le (by simp; omega)]
  simp
theorem putAt_size (cs : Array Value) (o : Nat) (vs : List Value) (h : o + vs.length ≤ cs.size) : (putAt cs o vs).size = cs.size := by
  simp [putAt]; omega

theorem putAt_one (cs : Array Value) (o : Nat) (v : Value) (h : o < cs.size) : putAt cs o [v] = cs.setIfInBounds o v := by
  apply Array.ext_getElem?
  intro j
  unfold putAt
  simp only [List.getElem?_toArray, List.length_singleton, Array.getElem?_setIfInBounds, h, if_true]
  rw [List.append_assoc]
  by_cases h1 : o = j
  · subst h1
    have : (cs.toList.take o).length = o := by simp; omega
    rw [List.getElem?_append_right (by omega)]
    simp [this]
  · rw [if_neg h1]
    rcases Nat.lt_or_ge j o with h2 | h2
    · rw [List.getElem?_append_left (by simp; omega)]
      simp [h2]
    · have : (cs.toList.take o).length = o := by simp; omega
      rw [List.getElem?_append_right (by omega), this, List.getElem?_append_right (by simp; omega)]
      simp
      congr 1
      omega
theorem bv_set (l : List UInt8) (i : Nat) (b : UInt8) : (bv l).setIfInBounds i (.int .u8 (b.toNat : Int)) = bv (l.set i b) := by
  apply Array.ext_getElem?
  intro j
  simp only [bv, Array.getElem?_setIfInBounds, List.getElem?_toArray, List.getElem?_map, List.getElem?_set, List.size_toArray, List.length_map]
  by_cases h : i = j
  · subst h
    by_cases h2 : i < l.length <;> simp [h2]
  · simp [h]

theorem run_storeVar_part (w : World) (g o : Nat) (ty t : TypeId) (n : Nat) (cur : Array Value) (v : Value) (hg : w.heap[g]? = some (.cells cur t (0, 0))) (hi : (P.info? ty).map (·.size) = some n) (hn : v.cells.size = n)
    (hl : o + n ≤ cur.size) (h1 : ∀ u ∈ v.cells.toList, u.oneCell' = true) : (storeVar ty ⟨g, o, none⟩ v).run P w = .ok () (w.setRow g (putAt cur o v.cells.toList)) := by
  have h := run_storeCells_at (P := P) g o t v.cells.toList 0 cur w hg (by simp; omega) h1
  simp only [Nat.add_zero] at h
  simp only [storeVar, Sem.run_bind, run_sizeOf hi, Result.andThen_ok, hn]
  simpa [putAt] using h

/-- A store of a value of n cells into a block that is known whole. -/
theorem wpList_store_part {ops : Array Oper} {rest : List Oper} {o : Oper} {a : Act} {w : World} {Q : Exit → Act → World → Prop} (ty : TypeId) (x y : Operand) (ho : o.op = .store ty x y)
    (g off : Nat) (hx : a.eval x = .pointer (some ⟨g, off, none⟩)) (hw : Region.wanted o (yielded ops a.tmps) = true) (v : Value) (hy : a.eval y = v) (n : Nat) (hi : (P.info? ty).map (·.size) = some n) (hn : v.cells.size = n) (h1 : ∀ u ∈ v.cells.toList, u.oneCell' = true)
    (t : TypeId) (cur : Array Value) (hg : w.heap[g]? = some (.cells cur t (0, 0))) (hl : off + n ≤ cur.size)
    (h : ∀ W : World, W.heap[g]? = some (.cells (putAt cur off v.cells.toList) t (0, 0)) → Tch (· = g) w W → W.heap.size = w.heap.size → wpList P ops Q rest (a.put o.dst undef) W) : wpList P ops Q (o :: rest) a w := by
  refine wpList_wanted hw fun K hK => ?_
  have hrun : (execOp a.eval o).run P w = .ok .skip (w.setRow g (putAt cur off v.cells.toList)) := by
    unfold execOp
    simp only [ho, hx, hy, Instr.storeAt, Instr.sureAddr, Sem.run_bind, Sem.run_pure, Result.andThen_ok, run_storeVar_part w g off ty t n cur v hg hi hn hl h1]
  unfold Oper.wp
  rw [hrun]
  exact hK _ _ (h _ (setRow_heap w g cur _ t _ hg) ⟨rfl, rfl, rfl, by simp, fun k _ hk => setRow_other w g k _ hk⟩ (by simp))

/-- A store of a whole aggregate over a block of its size. -/
theorem wpList_store_box {ops : Array Oper} {rest : List Oper} {o : Oper} {a : Act} {w : World} {Q : Exit → Act → World → Prop} (ty : TypeId) (x y : Operand) (ho : o.op = .store ty x y)
    (g : Nat) (hx : a.eval x = .pointer (some ⟨g, 0, none⟩)) (hw : Region.wanted o (yielded ops a.tmps) = true) (cs : Array Value) (hy : a.eval y = .agg cs) (n : Nat) (hi : (P.info? ty).map (·.size) = some n) (hn : cs.size = n) (h1 : ∀ u ∈ cs.toList, u.oneCell' = true)
    (t : TypeId) (cur : Array Value) (hg : w.heap[g]? = some (.cells cur t (0, 0))) (hl : cur.size = n)
    (h : ∀ W : World, W.heap[g]? = some (.cells cs t (0, 0)) → Tch (· = g) w W → W.heap.size = w.heap.size → wpList P ops Q rest (a.put o.dst undef) W) : wpList P ops Q (o :: rest) a w :=
  wpList_store_part ty x y ho g 0 hx hw (.agg cs) hy n hi hn h1 t cur hg (by omega) (fun W hW hT hs => h W (by
    rw [show (Value.agg cs).cells.toList = cs.toList from rfl, putAt_all cur cs (hl.trans hn.symm)] at hW
    exact hW) hT hs)

/-- A new variable, of the type's zero. -/
theorem wpList_alloc {ops : Array Oper} {rest : List Oper} {o : Oper} {a : Act} {w : World} {Q : Exit → Act → World → Prop} (ty : TypeId) (ho : o.op = .alloc ty) (hw : Region.wanted o (yielded ops a.tmps) = true) (z : Value) (hz : ∀ W, (zeroValue ty).run P W = .ok z W)
    (h : ∀ (g : Nat) (W : World), W.heap[g]? = some (.cells z.cells ty (0, 0)) → g < W.heap.size → w.heap.size ≤ g → Below w.heap.size w W → wpList P ops Q rest (a.put o.dst (.pointer (some ⟨g, 0, none⟩))) W) : wpList P ops Q (o :: rest) a w := by
  refine wpList_wanted hw fun K hK => ?_
  have hrun : (execOp a.eval o).run P w = .ok (.value (.pointer (some ⟨w.heap.size, 0, none⟩))) (w.alloc (.cells z.cells ty)) := by
    unfold execOp
    simp only [ho, Instr.alloc, Sem.run_bind, hz w, Result.andThen_ok]
    rfl
  unfold Oper.wp
  rw [hrun]
  exact hK _ _ (h w.heap.size _ (heap_alloc_at _ _ rfl) (by simp) (Nat.le_refl _) ((Below.refl _ _).alloc (Nat.le_refl _) _))

/-- An operation that yields a value and leaves the world. -/
theorem wpList_val {ops : Array Oper} {rest : List Oper} {o : Oper} {a : Act} {w : World} {Q : Exit → Act → World → Prop} (hw : Region.wanted o (yielded ops a.tmps) = true) (v : Value) (hrun : (execOp a.eval o).run P w = .ok (.value v) w)
    (h : wpList P ops Q rest (a.put o.dst v) w) : wpList P ops Q (o :: rest) a w :=
  wpList_wanted hw fun K hK => by
    unfold Oper.wp
    rw [hrun]
    exact hK _ _ h
/-- An aggregate built. -/
theorem wpList_buildv {ops : Array Oper} {rest : List Oper} {o : Oper} {a : Act} {w : World} {Q : Exit → Act → World → Prop} (ty : TypeId) (ps : Array (Nat × Operand)) (ho : o.op = .build ty ps) (hw : Region.wanted o (yielded ops a.tmps) = true)
    (vs : Array (Nat × Value)) (hvs : (ps.map fun (i, x) => (i, a.eval x)) = vs) (v : Value) (hb : ∀ W, (Instr.build ty vs).run P W = .ok v W)
    (h : wpList P ops Q rest (a.put o.dst v) w) : wpList P ops Q (o :: rest) a w := by
  refine wpList_val hw v ?_ h
  unfold execOp
  simp only [ho, hvs, Sem.run_bind, hb, Result.andThen_ok, Sem.run_pure]

/-- A load of an aggregate, behind a name that the walk does not open. -/
def loadK (t : TypeId) (v : Value) : Sem Next := do pure (.value (← Instr.loadAt t v))
theorem run_loadK {w : World} {g off : Nat} {t' ty : TypeId} {cs vs : Array Value} {fr : Nat × Nat} {d : TypeDesc} (hg : w.heap[g]? = some (.cells cs t' fr))
    (hu : P.underlying ty = some d) (hd : (match d with | .struct _ | .array _ _ => true | _ => false) = true) {n : Nat} (hi : (P.info? ty).map (·.size) = some n) (hn : vs.size = n)
    (hv : ∀ j, j < vs.size → cs[off + j]? = vs[j]?) : (loadK ty (.pointer (some ⟨g, off, none⟩))).run P w = .ok (.value (.agg vs)) w := by
  subst hn
  simp only [loadK, Instr.loadAt, Instr.sureAddr, Sem.run_bind, Sem.run_pure, Result.andThen_ok, run_loadVar_part w g off t' ty cs vs fr hg hu hd hi hv]
theorem run_loadK_box {w : World} {g : Nat} {t' ty : TypeId} {cs : Array Value} {fr : Nat × Nat} {d : TypeDesc} (hg : w.heap[g]? = some (.cells cs t' fr))
    (hu : P.underlying ty = some d) (hd : (match d with | .struct _ | .array _ _ => true | _ => false) = true) {n : Nat} (hi : (P.info? ty).map (·.size) = some n) (hn : cs.size = n) :
    (loadK ty (.pointer (some ⟨g, 0, none⟩))).run P w = .ok (.value (.agg cs)) w := run_loadK hg hu hd hi hn (fun j _ => by simp)
/-- A comparison of aggregates, behind a name that the walk does not open. -/
def cmpK (op : BinOp) (t : TypeId) (x y : Operand) (a b : Value) : Sem Next := do pure (.value (← (do eqGuard op t x y a b; binOp op t a b)))

/-- A value laid into a new block of its own: the world behind it is a variable. -/
theorem wpList_box {ops : Array Oper} {rest : List Oper} {o : Oper} {a : Act} {w : World} {Q : Exit → Act → World → Prop} (hgd : o.guard = none) (ty : TypeId) (x : Operand) (ho : o.op = .box ty x) (v : Value) (hv : a.eval x = v)
    (h : ∀ (g : Nat) (W : World), W.heap[g]? = some (.cells v.cells ty (0, 0)) → g < W.heap.size → w.heap.size ≤ g → Below w.heap.size w W → wpList P ops Q rest (a.put o.dst (.pointer (some ⟨g, 0, none⟩))) W) : wpList P ops Q (o :: rest) a w := by
  subst hv
  refine wpList_plain hgd fun K hK => ?_
  have hrun : (execOp a.eval o).run P w = .ok (.value (.pointer (some ⟨w.heap.size, 0, none⟩))) (w.alloc (.cells (a.eval x).cells ty)) := by
    unfold execOp
    simp only [ho]
    rfl
  unfold Oper.wp
  rw [hrun]
  exact hK _ _ (h w.heap.size _ (heap_alloc_at _ _ rfl) (by simp) (Nat.le_refl _) ((Below.refl _ _).alloc (Nat.le_refl _) _))

section
variable {ops : Array Oper} {C : World → Prop} {Q : Act → Prop} {o : Oper} {a : Act} {rest : List Oper}
theorem wpQuiet_op (hw : Region.wanted o (yielded ops a.tmps) = true) (v : Value) (h : ∀ W, C W → o.quietAt P a C W v) (hK : wpQuiet P ops C Q rest (a.put o.dst v)) : wpQuiet P ops C Q (o :: rest) a := by
  unfold wpQuiet
  rw [if_pos hw]
  exact ⟨v, h, hK⟩

theorem wpQuiet_ex (hw : Region.wanted o (yielded ops a.tmps) = true) (h : ∃ v, (∀ W, C W → o.quietAt P a C W v) ∧ wpQuiet P ops C Q rest (a.put o.dst v)) : wpQuiet P ops C Q (o :: rest) a :=
  let ⟨v, h1, h2⟩ := h
  wpQuiet_op hw v h1 h2
theorem wp_region_class {id : Nat} {Q : Exit → Act → World → Prop} {a : Act} {w : World} {l : List Oper} (C : World → Prop) (hm : P.follows .mixedOrders = true) (hB : Region.lexB .any l.toArray = true) (hC : C w.drew)
    (h : wpQuiet P l.toArray C (fun a' => ∀ w', C w' → Q .normal a' w') l a) : (Code.region id l.toArray true).wp P Q a w :=
  wp_region_quiet (C := C) hm hB hC (by simpa using h)

theorem wpQuiet_load_box (ty : TypeId) (x : Operand) (ho : o.op = .load ty x)
    (g : Nat) (hx : a.eval x = .pointer (some ⟨g, 0, none⟩)) (hw : Region.wanted o (yielded ops a.tmps) = true) (d : TypeDesc) (hu : P.underlying ty = some d)
    (hd : (match d with | .struct _ | .array _ _ => true | _ => false) = true) (n : Nat) (hi : (P.info? ty).map (·.size) = some n) (t' : TypeId) (cs : Array Value) (fr : Nat × Nat) (hg : ∀ w, C w → w.heap[g]? = some (.cells cs t' fr)) (hn : cs.size = n)
    (h : ∀ K : Act → Prop, (∀ a, wpQuiet P ops C Q rest a → K a) → K (a.put o.dst (.agg cs))) : wpQuiet P ops C Q (o :: rest) a :=
  wpQuiet_op hw (.agg cs) (fun W hW => by
    unfold Oper.quietAt execOp
    simp only [ho, hx, Instr.loadAt, Instr.sureAddr, Sem.run_bind, Sem.run_pure, Result.andThen_ok, run_loadVar_part W g 0 t' ty cs cs fr (hg W hW) hu hd (hn ▸ hi) (fun j _ => by simp)]
    exact ⟨rfl, rfl⟩) (h _ fun _ hh => hh)

/-- One operation that yields a value, what follows behind a variable. -/
theorem wpQuiet_exK (hw : Region.wanted o (yielded ops a.tmps) = true) (h : ∀ K : Act → Prop, (∀ a, wpQuiet P ops C Q rest a → K a) → ∃ v, (∀ W, C W → o.quietAt P a C W v) ∧ K (a.put o.dst v)) : wpQuiet P ops C Q (o :: rest) a :=
  wpQuiet_ex hw (h _ fun _ hh => hh)
/-- A call, met by its contract in every world of the class. -/
theorem wpQuiet_callK (f : FuncId) (_ho : ∃ args ts, o.op = .call { callee := .value (.func f), args := args, argTypes := ts }) (hw : Region.wanted o (yielded ops a.tmps) = true) (hx : ∃ vs, (∀ W, (execOp a.eval o).run P W = .ok (.enter f vs) W) ∧ ∃ v, (∀ W, C W → Calls P f vs W fun e W' => e = .returned v ∧ C W') ∧
    ∀ K : Act → Prop, (∀ a, wpQuiet P ops C Q rest a → K a) → K (a.put o.dst v)) : wpQuiet P ops C Q (o :: rest) a :=
  let ⟨_, hrun, v, hc, h⟩ := hx
  wpQuiet_op hw v (fun W hW => by
    unfold Oper.quietAt
    rw [hrun W]
    exact ⟨rfl, hc W hW⟩) (h _ fun _ hh => hh)
/-- An operation whose guard says no. -/
theorem wpQuiet_skipK (hw : Region.wanted o (yielded ops a.tmps) = false) (h : ∀ K : Act → Prop, (∀ a, wpQuiet P ops C Q rest a → K a) → K (a.put o.dst undef)) : wpQuiet P ops C Q (o :: rest) a := by
  unfold wpQuiet
  rw [if_neg (by simp [hw])]
  exact h _ fun _ hh => hh
end
end
end Go.Cu
/- What lies in memory side by side: each thing in blocks of its own, none of them the caller's. -/
namespace Go.Cu
open Go Go.RowKit
/-- Something that lies in blocks of its own: it speaks of these alone. -/
structure Atm where
  in_ : (Nat → Prop) → World → Prop
  keep : ∀ {F : Nat → Prop} {W W' : World}, in_ F W → (∀ g, g < W.heap.size → F g → W'.heap[g]? = W.heap[g]?) → in_ F W'
  mono : ∀ {F G : Nat → Prop} {W : World}, in_ F W → (∀ g, g < W.heap.size → F g → G g) → in_ G W

def Star : List Atm → (Nat → Prop) → World → Prop
  | [], _, _ => True
  | a :: L, F, W => ∃ G : Nat → Prop, a.in_ (fun g => F g ∧ G g) W ∧ Star L (fun g => F g ∧ ¬ G g) W
theorem Star.keep {W W' : World} : ∀ {L : List Atm} {F : Nat → Prop}, Star L F W → (∀ g, g < W.heap.size → F g → W'.heap[g]? = W.heap[g]?) → Star L F W'
  | [], _, _, _ => trivial
  | a :: _, _, ⟨G, h, r⟩, hk => ⟨G, a.keep h fun g hg hf => hk g hg hf.1, Star.keep r fun g hg hf => hk g hg hf.1⟩
theorem Star.mono {W : World} : ∀ {L : List Atm} {F F' : Nat → Prop}, Star L F W → (∀ g, g < W.heap.size → F g → F' g) → Star L F' W
  | [], _, _, _, _ => trivial
  | a :: _, _, _, ⟨G, h, r⟩, hk => ⟨G, a.mono h fun g hg hf => ⟨hk g hg hf.1, hf.2⟩, Star.mono r fun g hg hf => ⟨hk g hg hf.1, hf.2⟩⟩
theorem Star.swap {W : World} {a b : Atm} {L : List Atm} {F : Nat → Prop} : Star (a :: b :: L) F W → Star (b :: a :: L) F W := by
  rintro ⟨G, ha, H, hb, r⟩
  refine ⟨fun g => ¬ G g ∧ H g, b.mono hb fun g _ hf => ⟨hf.1.1, hf.1.2, hf.2⟩, G, a.mono ha fun g _ hf => ⟨⟨hf.1, fun h => h.1 hf.2⟩, hf.2⟩, r.mono fun g _ hf => ⟨⟨hf.1.1, fun h => hf.2 h.2⟩, hf.1.2⟩⟩
theorem Star.perm {W : World} {L M : List Atm} (h : L.Perm M) : ∀ {F : Nat → Prop}, Star L F W → Star M F W := by
  induction h with
  | nil => exact id
  | cons a _ ih => rintro F ⟨G, h, r⟩; exact ⟨G, h, ih r⟩
  | swap a b l => exact Star.swap
  | trans _ _ i j => exact fun h => j (i h)

/-- What the caller had is as it was; the things of L lie in blocks that came since. -/
structure St (W0 : World) (L : List Atm) (W : World) : Prop where
  below : Below W0.heap.size W0 W
  star : Star L (fun g => W0.heap.size ≤ g) W
section
variable {W0 W W' : World} {L M : List Atm} {a b c d e a' : Atm}
theorem St.start (W0 : World) : St W0 [] W0 := ⟨Below.refl _ _, trivial⟩
theorem St.size (h : St W0 L W) : W0.heap.size ≤ W.heap.size := h.below.size
theorem St.perm (h : St W0 L W) (p : L.Perm M) : St W0 M W := ⟨h.below, h.star.perm p⟩
theorem St.at2 (h : St W0 (a :: b :: L) W) : St W0 (b :: a :: L) W := ⟨h.below, h.star.swap⟩
theorem St.at3 (h : St W0 (a :: b :: c :: L) W) : St W0 (c :: a :: b :: L) W := h.perm (((List.Perm.swap c b L).cons a).trans (List.Perm.swap c a (b :: L)))
theorem St.back3 (h : St W0 (c :: a :: b :: L) W) : St W0 (a :: b :: c :: L) W := h.perm (((List.Perm.swap a c (b :: L))).trans ((List.Perm.swap b c L).cons a))
theorem St.at4 (h : St W0 (a :: b :: c :: d :: L) W) : St W0 (d :: a :: b :: c :: L) W := by
  obtain ⟨hb, G, ha, r⟩ := h
  exact (show St W0 (a :: d :: b :: c :: L) W from ⟨hb, G, ha, r.perm (((List.Perm.swap d c L).cons b).trans (List.Perm.swap d b (c :: L)))⟩).at2
theorem St.back4 (h : St W0 (d :: a :: b :: c :: L) W) : St W0 (a :: b :: c :: d :: L) W := by
  obtain ⟨hb, G, ha, r⟩ := h.at2
  exact ⟨hb, G, ha, r.perm (((List.Perm.swap b d (c :: L))).trans ((List.Perm.swap c d L).cons b))⟩
/-- The first thing: its blocks; what may become of it, with all else as it was. -/
theorem St.first (h : St W0 (a :: L) W) : ∃ F : Nat → Prop, a.in_ F W ∧ (∀ g, F g → W0.heap.size ≤ g ∧ g < W.heap.size) ∧
    ∀ (a' : Atm) (W' : World), a'.in_ (fun g => F g ∨ W.heap.size ≤ g) W' → Tch F W W' → St W0 (a' :: L) W' := by
  obtain ⟨hb, G, ha, r⟩ := h
  refine ⟨fun g => (W0.heap.size ≤ g ∧ G g) ∧ g < W.heap.size, a.mono ha fun g hg hf => ⟨hf, hg⟩, fun g hg => ⟨hg.1.1, hg.2⟩, fun a' W' ha' ht => ⟨hb.trans (ht.below hb.size fun i hi => hi.1.1), fun g => (G g ∧ g < W.heap.size) ∨ W.heap.size ≤ g, ?_, ?_⟩⟩
  · refine a'.mono ha' fun g _ hf => ?_
    have := hb.size
    rcases hf with hf | hf
    · exact ⟨hf.1.1, .inl ⟨hf.1.2, hf.2⟩⟩
    · exact ⟨by omega, .inr hf⟩
  · refine Star.mono (Star.keep (r.mono (F' := fun g => (W0.heap.size ≤ g ∧ ¬ G g) ∧ g < W.heap.size) fun g hg hf => ⟨hf, hg⟩) fun g hg hf => ht.block g hg fun hx => hf.1.2 hx.1.2) fun g _ hf => ⟨hf.1.1, ?_⟩
    rintro (h | h)
    · exact hf.1.2 h.1
    · omega
theorem St.turn (h : St W0 L W) (hb : Below W.heap.size W W') : St W0 L W' :=
  ⟨h.below.trans (hb.mono h.size), (Star.keep (h.star.mono (F' := fun g => W0.heap.size ≤ g ∧ g < W.heap.size) fun _ hg hf => ⟨hf, hg⟩) fun g _ hf => hb.block g hf.2).mono fun _ _ hf => hf.1⟩
theorem St.push (h : St W0 L W) (hb : Below W.heap.size W W') (ha : a.in_ (fun g => W.heap.size ≤ g) W') : St W0 (a :: L) W' := by
  have h' : Star L (fun g => W0.heap.size ≤ g ∧ g < W.heap.size) W' := Star.keep (h.star.mono (F' := fun g => W0.heap.size ≤ g ∧ g < W.heap.size) fun _ hg hf => ⟨hf, hg⟩) fun g hg hf => hb.block g hf.2
  have hs := h.size
  exact ⟨h.below.trans (hb.mono h.size), fun g => W.heap.size ≤ g, a.mono ha fun g _ hf => ⟨by omega, hf⟩, h'.mono fun g _ hf => ⟨hf.1, by omega⟩⟩
theorem St.drop (h : St W0 (a :: L) W) : St W0 L W := by
  obtain ⟨hb, G, ha, r⟩ := h
  exact ⟨hb, r.mono fun _ _ hf => hf.1⟩
theorem St.drop2 (h : St W0 (a :: b :: L) W) : St W0 (a :: L) W := h.at2.drop
theorem St.drop3 (h : St W0 (a :: b :: c :: L) W) : St W0 (a :: b :: L) W := h.at3.drop
end

/-- A block that is known whole. -/
def Blk (g : Nat) (cs : Array Value) (t : TypeId) : Atm :=
  ⟨fun F W => F g ∧ W.heap[g]? = some (.cells cs t (0, 0)), fun {F W W'} h hk => ⟨h.1, (hk g (by
      rcases Nat.lt_or_ge g W.heap.size with h1 | h1
      · exact h1
      · have := h.2; rw [Array.getElem?_eq_none h1] at this; cases this) h.1).trans h.2⟩, fun {F G W} h hm => ⟨hm g (by
      rcases Nat.lt_or_ge g W.heap.size with h1 | h1
      · exact h1
      · have := h.2; rw [Array.getElem?_eq_none h1] at this; cases this) h.1, h.2⟩⟩
theorem heap_lt {W : World} {g : Nat} {o : Obj} (h : W.heap[g]? = some o) : g < W.heap.size := by
  rcases Nat.lt_or_ge g W.heap.size with h1 | h1
  · exact h1
  · rw [Array.getElem?_eq_none h1] at h; cases h
/-- A slice that owns its row: v's n elements of s cells each are xs. -/
def Row (v : Value) (e s n : Nat) (xs : List Value) : Atm :=
  ⟨fun F W => (∀ g, v.ownBlock = some g → F g) ∧ W.ownsRow 0 e s v n xs, fun {F W W'} h hk => ⟨h.1, h.2.1, by
      rcases h.2.2 with h' | ⟨g, c, cur, rfl, hb, hh, r⟩
      · exact .inl h'
      · exact .inr ⟨g, c, cur, rfl, hb, (hk g (heap_lt hh) (h.1 g (by simp [Value.ownBlock]))).trans hh, r⟩⟩, fun {F G W} h hm => ⟨fun g hg => hm g (by
      rcases h.2.2 with ⟨rfl, _⟩ | ⟨g', c, cur, rfl, _, hh, _⟩
      · simp [Value.ownBlock] at hg
      · have : g' = g := by simpa [Value.ownBlock] using hg
        subst this
        exact heap_lt hh) (h.1 g hg), h.2⟩⟩
section
variable {W0 W W' : World} {L : List Atm} {g : Nat} {cs : Array Value} {t : TypeId}
theorem St.blk (h : St W0 (Blk g cs t :: L) W) : W.heap[g]? = some (.cells cs t (0, 0)) := by
  obtain ⟨F, ha, _, _⟩ := h.first
  exact ha.2
theorem St.blk_ge (h : St W0 (Blk g cs t :: L) W) : W0.heap.size ≤ g := by
  obtain ⟨F, ha, hf, _⟩ := h.first
  exact (hf _ ha.1).1
theorem St.newBlk (h : St W0 L W) (hb : Below W.heap.size W W') (hg : W.heap.size ≤ g) (hc : W'.heap[g]? = some (.cells cs t (0, 0))) : St W0 (Blk g cs t :: L) W' := h.push hb ⟨hg, hc⟩
theorem St.put {cs' : Array Value} {t' : TypeId} (h : St W0 (Blk g cs t :: L) W) (hc : W'.heap[g]? = some (.cells cs' t' (0, 0))) (ht : Tch (· = g) W W') : St W0 (Blk g cs' t' :: L) W' := by
  obtain ⟨F, ha, _, hr⟩ := h.first
  exact hr _ _ ⟨.inl ha.1, hc⟩ (ht.mono fun i _ e => by subst e; exact ha.1)
theorem St.setCell (h : St W0 (Blk g cs t :: L) W) (i : Nat) (v : Value) : St W0 (Blk g (cs.setIfInBounds i v) t :: L) (W.setCell ⟨g, i, none⟩ v) :=
  h.put (heap_setCell_same W g i cs t v h.blk) ((Tch.refl (· = g) W).setCell rfl v)
theorem St.row {v : Value} {e s n : Nat} {xs : List Value} (h : St W0 (Row v e s n xs :: L) W) : W.ownsRow 0 e s v n xs := by
  obtain ⟨F, ha, _, _⟩ := h.first
  exact ha.2
/-- Two things lie apart. -/
theorem St.blk_ne {g' : Nat} {cs' : Array Value} {t' : TypeId} (h : St W0 (Blk g cs t :: Blk g' cs' t' :: L) W) : g ≠ g' := by
  obtain ⟨_, G, ha, H, hb, _⟩ := h
  rintro rfl
  exact hb.1.1.2 ha.1.2
end
end Go.Cu
/- Lists of chunks of one length, as cells one behind the other; blocks of bytes in a row. -/
namespace Go.Cu
open Go Go.RowKit
section
variable {α β : Type} {f : α → List β} {n : Nat}

theorem fm_len : ∀ (l : List α), (∀ x ∈ l, (f x).length = n) → (l.flatMap f).length = l.length * n
  | [], _ => by simp
  | x :: l, h => by
    have := fm_len l (fun y hy => h y (by simp [hy]))
    simp only [List.flatMap_cons, List.length_append, this, h x (by simp), List.length_cons, Nat.succ_mul]
    omega
theorem fm_get : ∀ (l : List α) (i j : Nat) (x : α), (∀ x ∈ l, (f x).length = n) → l[i]? = some x → j < n → (l.flatMap f)[i * n + j]? = (f x)[j]?
  | [], _, _, _, _, hi, _ => by simp at hi
  | y :: l, 0, j, x, h, hi, hj => by
    have e : y = x := by simpa using hi
    subst e
    rw [List.flatMap_cons, List.getElem?_append_left (by rw [h y (by simp)]; omega)]
    simp
  | y :: l, i + 1, j, x, h, hi, hj => by
    have hy := h y (by simp)
    rw [List.flatMap_cons, List.getElem?_append_right (by rw [hy, Nat.succ_mul]; omega), hy, show (i + 1) * n + j - n = i * n + j by rw [Nat.succ_mul]; omega]
    exact fm_get l i j x (fun z hz => h z (by simp [hz])) (by simpa using hi) hj
theorem fm_put : ∀ (l : List α) (i : Nat) (y : α), (∀ x ∈ l, (f x).length = n) → i < l.length →
    (l.flatMap f).take (i * n) ++ f y ++ (l.flatMap f).drop (i * n + n) = (l.set i y).flatMap f
  | [], _, _, _, hi => by simp at hi
  | x :: l, 0, y, h, _ => by
    have hx := h x (by simp)
    rw [List.flatMap_cons, List.set_cons_zero, List.flatMap_cons, Nat.zero_mul, Nat.zero_add, List.take_zero, List.nil_append, List.drop_append_of_le_length (by omega), List.drop_of_length_le (by omega), List.nil_append]
  | x :: l, i + 1, y, h, hi => by
    have hx := h x (by simp)
    have ih := fm_put l i y (fun z hz => h z (by simp [hz])) (by simpa using hi)
    rw [List.flatMap_cons, List.set_cons_succ, List.flatMap_cons, ← ih, show (i + 1) * n = (f x).length + i * n by rw [Nat.succ_mul, hx]; omega, List.take_length_add_append,
      show (f x).length + i * n + n = (f x).length + (i * n + n) by omega, List.drop_length_add_append]
    simp
end

/-- Bytes as a list of cells. -/
def bvL (l : List UInt8) : List Value := l.map fun b => Value.int .u8 b.toNat
theorem bvL_len (l : List UInt8) : (bvL l).length = l.length := by simp [bvL]
theorem bv_eq (l : List UInt8) : bv l = (bvL l).toArray := rfl
theorem bvL_one (l : List UInt8) : ∀ u ∈ bvL l, u.oneCell' = true := by
  intro u hu
  simp only [bvL, List.mem_map] at hu
  obtain ⟨b, _, rfl⟩ := hu
  rfl

abbrev Bk := List UInt8
/-- Blocks of bytes, one behind the other. -/
def flat (L : List Bk) : Array Value := (L.flatMap bvL).toArray
def Full (L : List Bk) : Prop := ∀ b ∈ L, b.length = 128
theorem Full.get {L : List Bk} (h : Full L) {i : Nat} {b : Bk} (hi : L[i]? = some b) : b.length = 128 := h b (List.mem_of_getElem? hi)
theorem Full.set {L : List Bk} (h : Full L) {i : Nat} {b : Bk} (hb : b.length = 128) : Full (L.set i b) := by
  intro x hx
  rcases List.mem_or_eq_of_mem_set hx with h1 | h1
  · exact h x h1
  · subst h1; exact hb
theorem Full.len {L : List Bk} (h : Full L) : ∀ x ∈ L, (bvL x).length = 128 := fun x hx => (bvL_len x).trans (h x hx)
theorem flat_size {L : List Bk} (h : Full L) : (flat L).size = L.length * 128 := by
  unfold flat
  rw [List.size_toArray]
  exact fm_len L h.len
theorem flat_get {L : List Bk} (h : Full L) {i : Nat} {b : Bk} (hi : L[i]? = some b) : ∀ j, j < (bv b).size → (flat L)[i * 128 + j]? = (bv b)[j]? := by
  intro j hj
  rw [bv_size, h.get hi] at hj
  unfold flat
  rw [bv_eq, List.getElem?_toArray, List.getElem?_toArray]
  exact fm_get L i j b h.len hi hj
theorem flat_put {L : List Bk} (h : Full L) {i : Nat} (hi : i < L.length) {b : Bk} (hb : b.length = 128) : putAt (flat L) (i * 128) (bvL b) = flat (L.set i b) := by
  unfold putAt flat
  rw [bvL_len, hb]
  congr 1
  exact fm_put L i b h.len hi

/-- A write that doesn't last yet: a place and a block. -/
def putL (p : Nat × Bk) : List Value := .int .i64 p.1 :: bvL p.2
def waitL (l : List (Nat × Bk)) : List Value := l.flatMap putL
def FullW (l : List (Nat × Bk)) : Prop := ∀ p ∈ l, p.2.length = 128
theorem FullW.len {l : List (Nat × Bk)} (h : FullW l) : ∀ x ∈ l, (putL x).length = 129 := fun x hx => by simp [putL, bvL_len, h x hx]
theorem waitL_len {l : List (Nat × Bk)} (h : FullW l) : (waitL l).length = l.length * 129 := fm_len l h.len
theorem waitL_get {l : List (Nat × Bk)} (h : FullW l) {i : Nat} {p : Nat × Bk} (hi : l[i]? = some p) : ∀ j, j < 129 → (waitL l)[i * 129 + j]? = (putL p)[j]? :=
  fun j hj => fm_get l i j p h.len hi hj
theorem waitL_snoc (l : List (Nat × Bk)) (p : Nat × Bk) : waitL (l ++ [p]) = waitL l ++ putL p := by simp [waitL]
theorem putL_one (p : Nat × Bk) : ∀ u ∈ putL p, u.oneCell' = true := by
  intro u hu
  rcases List.mem_cons.1 hu with rfl | h
  · rfl
  · exact bvL_one _ u h
theorem putL_len {p : Nat × Bk} (h : p.2.length = 128) : (putL p).length = 129 := by simp [putL, bvL_len, h]
theorem putL_size {p : Nat × Bk} (h : p.2.length = 128) : (putL p).toArray.size = 129 := by simp [putL, bvL_len, h]
end Go.Cu
/- Aggregates and one-element slices built out of values that are variables; append onto an own row, with the place of the new row. -/
namespace Go.Cu
open Go Go.RowKit

theorem list_put_put (l : List Value) (o : Nat) (v : Value) (vs : List Value) (h : o + (vs.length + 1) ≤ l.length) :
    (l.set o v).take (o + 1) ++ vs ++ (l.set o v).drop (o + 1 + vs.length) = l.take o ++ (v :: vs) ++ l.drop (o + (vs.length + 1)) := by
  have h1 : (l.set o v).take (o + 1) = l.take o ++ [v] := by
    rw [List.take_add_one, List.take_set_of_le (Nat.le_refl o)]
    simp [show o < l.length by omega]
  have h2 : (l.set o v).drop (o + 1 + vs.length) = l.drop (o + (vs.length + 1)) := by
    rw [List.drop_set_of_lt (by omega)]
    congr 1
    omega
  rw [h1, h2]
  simp
theorem fold_put : ∀ (vs : List Value) (k off : Nat) (cs : Array Value), off + k + vs.length ≤ cs.size →
    (vs.zipIdx k).foldl (fun cs (x : Value × Nat) => cs.setIfInBounds (off + x.2) x.1) cs = putAt cs (off + k) vs
  | [], k, off, cs, _ => by simp [putAt]
  | v :: vs, k, off, cs, h => by
    simp only [List.length_cons] at h
    rw [List.zipIdx_cons, List.foldl_cons, fold_put vs (k + 1) off _ (by simp; omega)]
    unfold putAt
    congr 1
    rw [Array.toList_setIfInBounds, List.length_cons, show off + (k + 1) = off + k + 1 by omega]
    exact list_put_put cs.toList (off + k) v vs (by simpa [Nat.add_assoc] using h)
theorem fill_one (place : Nat → Option (Nat × Nat)) (cs : Array Value) (i off size : Nat) (v : Value) (rest : List (Nat × Value)) (hp : place i = some (off, size)) (hs : v.cells.size = size) (ho : off + size ≤ cs.size) :
    Instr.fill place cs ((i, v) :: rest) = Instr.fill place (putAt cs off v.cells.toList) rest := by
  have hf : (v.cells.zipIdx.foldl (fun cs (x : Value × Nat) => cs.setIfInBounds (off + x.2) x.1) cs) = putAt cs off v.cells.toList := by
    rw [← Array.foldl_toList, Array.toList_zipIdx]
    simpa using fold_put v.cells.toList 0 off cs (by simp; omega)
  have hn : ¬ (v.cells.size ≠ size || decide (off + v.cells.size > cs.size)) = true := by
    rw [hs]; simp; omega
  rw [Instr.fill]
  simp only [hp]
  rw [if_neg (by simpa using hn)]
  exact congrArg (fun c => Instr.fill place c rest) hf

section
variable {P : Program} {t e : TypeId}
/-- A struct of two fields, the second an array. -/
theorem run_build2 {f0 f1 : Field} {s0 s1 : Nat} {z : Value} (ht : P.underlying t = some (.struct #[f0, f1])) (hz : ∀ W, (zeroValue t).run P W = .ok z W)
    (i0 : (P.info? f0.type).map (·.size) = some s0) (i1 : (P.info? f1.type).map (·.size) = some s1) (o0 : f0.offset = 0) (o1 : f1.offset = s0) (hsz : z.cells.size = s0 + s1)
    (a b : Value) (ha : a.cells.size = s0) (hb : b.cells.size = s1) (w : World) :
    (Instr.build t #[(0, a), (1, b)]).run P w = .ok (.agg (a.cells ++ b.cells)) w := by
  have hfill : Instr.fill (fun i => #[(f0.offset, s0), (f1.offset, s1)][i]?) z.cells [(0, a), (1, b)] = some (a.cells ++ b.cells) := by
    rw [fill_one _ _ 0 0 s0 a _ (by simp [o0]) ha (by omega), fill_one _ _ 1 s0 s1 b _ (by simp [o1]) hb (by rw [putAt_size _ _ _ (by simp; omega)]; omega)]
    rw [Instr.fill]
    congr 1
    apply Array.ext'
    unfold putAt
    simp only [List.take_zero, List.nil_append, Nat.zero_add, Array.length_toList, Array.toList_append]
    rw [List.take_append_of_le_length (by simp; omega), List.take_of_length_le (by simp; omega), List.drop_of_length_le (by simp; omega), List.append_nil]
  unfold Instr.build
  simp only [Sem.run_bind, hz w, Result.andThen_ok, run_underlying ht]
  have hm : (Array.mapM (fun f : Field => do pure (f.offset, ← sizeOf f.type)) #[f0, f1] : Sem _).run P w = .ok #[(f0.offset, s0), (f1.offset, s1)] w := by
    simp [Sem.run_bind, run_sizeOf i0, run_sizeOf i1]
  simp only [hm, Result.andThen_ok]
  rw [hfill]
  rfl
/-- A new slice of one element. -/
theorem run_buildSlice1 {z : Value} {s : Nat} (ht : P.underlying t = some (.slice e)) (hz : ∀ W, (zeroValue e).run P W = .ok z W) (hi : (P.info? e).map (·.size) = some s) (h0 : 0 < s) (h24 : s ≤ 2 ^ 24)
    (a : Value) (ha : a.cells.size = s) (w : World) :
    (Instr.buildSlice t 1 #[(0, a)]).run P w = .ok (.slice (some ⟨w.heap.size, 0, none⟩) 1 1) (w.alloc (.cells a.cells e)) := by
  have hfill : ∀ c : Array Value, c.size = s → Instr.fill (fun i => some (i * s, s)) c [(0, a)] = some a.cells := by
    intro c hc
    rw [fill_one _ _ 0 0 s a _ (by simp) ha (by omega), Instr.fill]
    rw [putAt_all _ _ (hc.trans ha.symm)]
  unfold Instr.buildSlice
  have h1 : ¬ (1 * s > 2 ^ 24) := by omega
  have h2 : ¬ (1 * s = 0) := by omega
  simp only [Sem.run_bind, run_underlying ht, Result.andThen_ok, run_sizeOf hi]
  rw [if_neg h1, if_neg h2]
  simp only [Sem.run_bind, hz, Result.andThen_ok, Sem.run_pure]
  rw [hfill _ (by simp)]
  rfl

/-- Behind names that the walk does not open. -/
def buildK (t : TypeId) (vs : Array (Nat × Value)) : Sem Next := do pure (.value (← Instr.build t vs))
def buildSliceK (t : TypeId) (n : Nat) (vs : Array (Nat × Value)) : Sem Next := do pure (.value (← Instr.buildSlice t n vs))
theorem run_buildK {w : World} {vs : Array (Nat × Value)} {v : Value} (h : (Instr.build t vs).run P w = .ok v w) : (buildK t vs).run P w = .ok (.value v) w := by
  simp only [buildK, Sem.run_bind, h, Result.andThen_ok, Sem.run_pure]
theorem run_buildSliceK {w w' : World} {n : Nat} {vs : Array (Nat × Value)} {v : Value} (h : (Instr.buildSlice t n vs).run P w = .ok v w') : (buildSliceK t n vs).run P w = .ok (.value v) w' := by
  simp only [buildSliceK, Sem.run_bind, h, Result.andThen_ok, Sem.run_pure]

/-- A new slice of one element: its place is a variable. -/
theorem wpList_buildSlice1 {ops : Array Oper} {rest : List Oper} {o : Oper} {a : Act} {w : World} {Q : Exit → Act → World → Prop} (ps : Array (Nat × Operand)) (ho : o.op = .buildSlice t 1 ps) (x : Value) (hvs : (ps.map fun (i, y) => (i, a.eval y)) = #[(0, x)])
    (hw : Region.wanted o (yielded ops a.tmps) = true) {z : Value} {s : Nat} (ht : P.underlying t = some (.slice e)) (hz : ∀ W, (zeroValue e).run P W = .ok z W) (hi : (P.info? e).map (·.size) = some s) (h0 : 0 < s) (h24 : s ≤ 2 ^ 24) (hx : x.cells.size = s)
    (h : ∀ (g : Nat) (W : World), W.heap[g]? = some (.cells x.cells e (0, 0)) → g < W.heap.size → w.heap.size ≤ g → Below w.heap.size w W → wpList P ops Q rest (a.put o.dst (.slice (some ⟨g, 0, none⟩) 1 1)) W) : wpList P ops Q (o :: rest) a w := by
  refine wpList_wanted hw fun K hK => ?_
  have hrun : (execOp a.eval o).run P w = .ok (.value (.slice (some ⟨w.heap.size, 0, none⟩) 1 1)) (w.alloc (.cells x.cells e)) := by
    unfold execOp
    simp only [ho, hvs, Sem.run_bind, run_buildSlice1 ht hz hi h0 h24 x hx w, Result.andThen_ok, Sem.run_pure]
  unfold Oper.wp
  rw [hrun]
  exact hK _ _ (h w.heap.size _ (heap_alloc_at _ _ rfl) (by simp) (Nat.le_refl _) ((Below.refl _ _).alloc (Nat.le_refl _) _))

/-- append onto an own row: where the new row lies. -/
theorem wpList_append_at {ops : Array Oper} {rest : List Oper} {o : Oper} {a : Act} {w : World} {Q : Exit → Act → World → Prop} (s x : Operand) (t : TypeId)
    (ho : o.op = .call { callee := .builtin .append, args := #[s, x], argTypes := #[t, t] }) (v : Value) (hs : a.eval s = v) (ad : Addr) (m c : Nat) (hx : a.eval x = .slice (some ad) m c) (hw : Region.wanted o (yielded ops a.tmps) = true)
    (e : TypeId) (i : TypeInfo) (z : Value) (size bytes : Nat) (ht : P.underlying t = some (.slice e)) (hi : P.info? e = some i) (hz : i.zero = some z)
    (hsize : i.size = size) (hby : i.bytes = bytes) (hzs : z.cells.size = size) (hsz : 0 < size)
    (n : Nat) (xs : List Value) (hown : w.ownsRow 0 e size v n xs)
    (news : List Value) (hl : news.length = m * size) (hnews : ∀ j u, news[j]? = some u → w.cell? (ad.add j) = some u) (h1 : ∀ u ∈ news, u.oneCell' = true)
    (h63 : n + m ≤ maxLen) (hbytes : (n + m) * bytes ≤ 140737488355328)
    (h : ∀ v' w', w'.ownsRow 0 e size v' (n + m) (xs ++ news) → Tch (fun g => v.ownBlock = some g) w w' → (v'.ownBlock = v.ownBlock ∨ v'.ownBlock = some w.heap.size) → wpList P ops Q rest (a.put o.dst v') w') : wpList P ops Q (o :: rest) a w := by
  refine wpList_wanted hw fun K hK => ?_
  obtain ⟨v', w', hrun, h2, h3, _, h5⟩ := run_append_own_at (P := P) w 0 t o.type e i z size bytes ht hi hz hsize hby hzs hsz v n xs hown ad m c news hl hnews h1 h63 hbytes (Nat.zero_le _)
  unfold Oper.wp execOp
  simp only [ho, resolve, invoke, builtin, Sem.run_bind, Sem.run_pure, Result.andThen_ok, List.map_toArray, List.map_cons, List.map_nil, hs, hx, hrun]
  exact hK _ _ (h v' w' h2 ⟨h3.os, h3.tape, h3.output, h3.size, fun k hk hne => h3.block k hk (fun e => hne e.symm)⟩ h5)
end
end Go.Cu
/- Slices that grow, side by side with other things. -/
namespace Go.Cu
open Go Go.RowKit
section
variable {W0 W W' : World} {L : List Atm} {v v' : Value} {e s n n' : Nat} {xs xs' : List Value}
theorem St.grow (h : St W0 (Row v e s n xs :: L) W) (ho : W'.ownsRow 0 e s v' n' xs') (ht : Tch (fun g => v.ownBlock = some g) W W') (hb : v'.ownBlock = v.ownBlock ∨ v'.ownBlock = some W.heap.size) : St W0 (Row v' e s n' xs' :: L) W' := by
  obtain ⟨F, ha, _, hr⟩ := h.first
  refine hr _ _ ⟨fun g hg => ?_, ho⟩ (ht.mono fun i _ e => ha.1 i e)
  rcases hb with e | e
  · exact .inl (ha.1 g (e ▸ hg))
  · rw [hg] at e
    have : g = W.heap.size := Option.some.inj e
    exact .inr (by omega)
theorem St.nilRow (h : St W0 L W) (e s : Nat) : St W0 (Row (.slice none 0 0) e s 0 [] :: L) W :=
  h.push (Below.refl _ _) ⟨fun g hg => by simp [Value.ownBlock] at hg, by simp, .inl ⟨rfl, rfl⟩⟩
theorem row_slice (h : St W0 (Row v e s n xs :: L) W) : ∃ A c, v = .slice A n c ∧ n ≤ maxLen := by
  rcases h.row.2 with ⟨rfl, rfl⟩ | ⟨g, c, cur, rfl, _, _, hc, hm, _⟩
  · exact ⟨none, 0, rfl, Nat.zero_le _⟩
  · exact ⟨_, _, rfl, Nat.le_trans hc hm⟩
theorem news_box {g : Nat} {cs : Array Value} {t : TypeId} {fr : Nat × Nat} (h : W.heap[g]? = some (.cells cs t fr)) (l : List Value) (hl : cs.toList = l) : ∀ j u, l[j]? = some u → W.cell? ((⟨g, 0, none⟩ : Addr).add j) = some u := by
  intro j u hu
  have e : (⟨g, 0, none⟩ : Addr).add j = ⟨g, j, none⟩ := by unfold Addr.add; split <;> simp_all
  rw [e, cell_of_row W g j _ _ _ h]
  subst hl
  simpa using hu
end
end Go.Cu
/- A new slice of nothing, and a row that it begins; a slice of a known block appended to a row. -/
namespace Go.Cu
open Go Go.RowKit
section
variable {P : Program} {t e : TypeId}
theorem run_buildSlice0 {s : Nat} (ht : P.underlying t = some (.slice e)) (hi : (P.info? e).map (·.size) = some s) (w : World) :
    (Instr.buildSlice t 0 #[]).run P w = .ok (.slice (some ⟨w.heap.size, 0, none⟩) 0 0) (w.alloc (.cells #[] e)) := by
  unfold Instr.buildSlice
  have h1 : ¬ (0 * s > 2 ^ 24) := by omega
  have h2 : 0 * s = 0 := by omega
  simp only [Sem.run_bind, run_underlying ht, Result.andThen_ok, run_sizeOf hi]
  rw [if_neg h1, if_pos h2]
  simp only [Sem.run_bind, Sem.run_pure, Result.andThen_ok, h2, show Array.range 0 = #[] from by simp, Array.map_empty, Instr.fill]
  rfl
theorem wpList_buildSlice0 {ops : Array Oper} {rest : List Oper} {o : Oper} {a : Act} {w : World} {Q : Exit → Act → World → Prop} (ho : o.op = .buildSlice t 0 #[])
    (hw : Region.wanted o (yielded ops a.tmps) = true) {s : Nat} (ht : P.underlying t = some (.slice e)) (hi : (P.info? e).map (·.size) = some s)
    (h : ∀ (g : Nat) (W : World), W.heap[g]? = some (.cells #[] e (0, 0)) → g < W.heap.size → w.heap.size ≤ g → Below w.heap.size w W → wpList P ops Q rest (a.put o.dst (.slice (some ⟨g, 0, none⟩) 0 0)) W) : wpList P ops Q (o :: rest) a w := by
  refine wpList_wanted hw fun K hK => ?_
  have hrun : (execOp a.eval o).run P w = .ok (.value (.slice (some ⟨w.heap.size, 0, none⟩) 0 0)) (w.alloc (.cells #[] e)) := by
    unfold execOp
    simp only [ho, Array.map_empty, Sem.run_bind, run_buildSlice0 ht hi w, Result.andThen_ok, Sem.run_pure]
  unfold Oper.wp
  rw [hrun]
  exact hK _ _ (h w.heap.size _ (heap_alloc_at _ _ rfl) (by simp) (Nat.le_refl _) ((Below.refl _ _).alloc (Nat.le_refl _) _))
end
section
variable {W0 W W' : World} {L : List Atm}
theorem St.newRow0 {g e s : Nat} (h : St W0 L W) (hb : Below W.heap.size W W') (hg : W.heap.size ≤ g) (hc : W'.heap[g]? = some (.cells #[] e (0, 0))) : St W0 (Row (.slice (some ⟨g, 0, none⟩) 0 0) e s 0 [] :: L) W' :=
  h.push hb ⟨fun g' hg' => by
    have : g = g' := by simpa [Value.ownBlock] using hg'
    subst this
    exact hg, by simp, .inr ⟨g, 0, #[], rfl, Nat.zero_le _, hc, Nat.le_refl _, Nat.zero_le _, by simp, by simp⟩⟩
end
end Go.Cu
/- Arrays of bytes among a law's parameters: opened to 'bv'. -/
namespace Go.Cu
open Go Go.RowKit Go.ChangeShapes Go.WideShapes
section
variable {H : Type} {enc : TypeId × Value → H} {P : Program} {w : World} {base : Nat} {spare : Nat → Bool} {held : Bool}

theorem cells_bv : ∀ (cs : List Value), (∀ c ∈ cs, ∃ a : Int, c = .int .u8 a ∧ (Lit.int .u8 a).wf = true) → ∃ l : List UInt8, cs = l.map fun b => Value.int .u8 (b.toNat : Int)
  | [], _ => ⟨[], rfl⟩
  | c :: cs, h => by
    obtain ⟨a, rfl, ha⟩ := h c (by simp)
    obtain ⟨l, rfl⟩ := cells_bv cs (fun x hx => h x (by simp [hx]))
    have hb := bounds_u8 ha
    refine ⟨UInt8.ofNat a.toNat :: l, ?_⟩
    have : ((UInt8.ofNat a.toNat).toNat : Int) = a := by
      rw [UInt8.toNat_ofNat', Nat.mod_eq_of_lt (by omega)]
      omega
    rw [List.map_cons, this]

theorem open_bytes {r : Reach} {b0 : Nat} {t e : TypeId} {n : Nat} {v : Value} {d : DataW H} {p : List MemPlace} (ht : P.underlying t = some (.array n e)) (he : P.underlying e = some (.int .u8)) (hc : P.cellsOf e = 1) (hC : P.cellsOf t = n)
    (hv : Value.okWide P w r b0 t v) (h : DataW.Trod enc P w base spare held t v d p) : ∃ l : List UInt8, l.length = n ∧ v = .agg (bv l) := by
  simp only [Value.okWide, ht] at hv
  obtain ⟨cs, rfl, hsz, _⟩ := hv
  obtain ⟨fuel, hf⟩ := h
  obtain ⟨xs, m, _, _, _, hl, hel⟩ := DataW.trod_array ht hf
  rw [hC] at hsz
  have hall : ∀ c ∈ cs.toList, ∃ a : Int, c = .int .u8 a ∧ (Lit.int .u8 a).wf = true := by
    intro c hcm
    obtain ⟨i, hi, rfl⟩ := List.mem_iff_getElem.1 hcm
    have hin : i < n := by simpa [hsz] using hi
    have h1 := hel i hin
    rw [hc] at h1
    have h2 : (cs.toList.drop (i * 1)).take 1 = [cs.toList[i]] := by
      rw [Nat.mul_one, List.drop_eq_getElem_cons hi]
      rfl
    have hx : xs[i]? = some (xs[i]'(by omega)) := List.getElem?_eq_getElem (by omega)
    rw [show (Value.agg cs).cells.toList = cs.toList from rfl, h2, hx] at h1
    obtain ⟨a, e1, _, wa⟩ := DataW.trod_int he h1
    exact ⟨a, by simpa using e1, wa⟩
  obtain ⟨l, hl'⟩ := cells_bv cs.toList hall
  refine ⟨l, ?_, ?_⟩
  · have := congrArg List.length hl'
    simp only [Array.length_toList, List.length_map] at this
    omega
  · have : cs = bv l := by
      apply Array.ext'
      rw [hl', bv_toList]
    rw [this]
end
end Go.Cu
/- Slices among a law's parameters: their cells; lists out of 'there is one at each index'. -/
namespace Go.Cu
open Go Go.RowKit Go.ChangeShapes Go.WideShapes
theorem choose_list {α : Type} {p : Nat → α → Prop} : ∀ (n : Nat), (∀ i, i < n → ∃ x, p i x) → ∃ l : List α, l.length = n ∧ ∀ i x, l[i]? = some x → p i x
  | 0, _ => ⟨[], rfl, fun i x h => by simp at h⟩
  | n + 1, h => by
    obtain ⟨l, hl, hp⟩ := choose_list n fun i hi => h i (by omega)
    obtain ⟨x, hx⟩ := h n (by omega)
    refine ⟨l ++ [x], by simp [hl], fun i y hy => ?_⟩
    by_cases hi : i < n
    · rw [List.getElem?_append_left (by omega)] at hy
      exact hp i y hy
    · have hlt := (List.getElem?_eq_some_iff.1 hy).1
      simp only [List.length_append, List.length_singleton] at hlt
      have e : i = n := by omega
      subst e
      rw [List.getElem?_append_right (by omega)] at hy
      rw [hl, Nat.sub_self] at hy
      obtain rfl : x = y := by simpa using hy
      exact hx
section
variable {H : Type} {enc : TypeId × Value → H} {P : Program} {w : World} {base : Nat} {spare : Nat → Bool} {held : Bool}
/-- A slice's cells. -/
theorem slice_cells {t e : TypeId} {s fuel : Nat} {cs : List Value} {x : DataW H × List MemPlace} (ht : P.underlying t = some (.slice e)) (hs : P.cellsOf e = s) (h0 : 0 < s) (h : DataW.trod enc P w base spare held fuel t cs = some x) :
    ∃ (A : Option Addr) (len cap : Nat), cs = [.slice A len cap] ∧ len ≤ cap ∧ cap ≤ maxLen ∧ ∀ i, i < len → ∃ (g o n : Nat) (cs' : List Value) (y : DataW H × List MemPlace), A = some ⟨g, o, none⟩ ∧ g < w.heap.size ∧ cs'.length = s ∧
      (∀ k, k < s → w.cell? ⟨g, o + i * s + k, none⟩ = cs'[k]?) ∧ DataW.trod enc P w base spare held n e cs' = some y := by
  subst hs
  rcases DataW.trod_slice ht h with ⟨rfl, _⟩ | ⟨a, len, cap, elems, rest, n, _, rfl, _, _, hl, hm, hlen, hel, _, _⟩
  · exact ⟨none, 0, 0, rfl, Nat.le_refl _, Nat.zero_le _, fun i hi => absurd hi (by omega)⟩
  · refine ⟨some a, len, cap, rfl, hl, hm, fun i hi => ?_⟩
    have hspot : a.spot = none ∧ a.block < w.heap.size := by
      have h1 := hel 0 (by omega)
      rw [List.getElem?_eq_getElem (by omega), Option.bind_eq_some_iff] at h1
      obtain ⟨cs', hc, _⟩ := h1
      obtain ⟨_, hcl, hat⟩ := World.cells?_some hc
      have h2 := hat 0 h0
      rw [List.getElem?_eq_getElem (by omega)] at h2
      have e : (a.add (0 * P.cellsOf e)).add 0 = a := by simp [Addr.add]
      rw [e] at h2
      refine ⟨World.cell?_spot h2, ?_⟩
      rcases Nat.lt_or_ge a.block w.heap.size with h3 | h3
      · exact h3
      · unfold World.cell? at h2
        rw [Array.getElem?_eq_none h3] at h2
        simp at h2
    obtain ⟨g, o, sp⟩ := a
    obtain ⟨rfl, hg⟩ := hspot
    have h1 := hel i hi
    rw [List.getElem?_eq_getElem (by omega), Option.bind_eq_some_iff] at h1
    obtain ⟨cs', hc, hy⟩ := h1
    obtain ⟨_, hcl, hat⟩ := World.cells?_some hc
    refine ⟨g, o, n, cs', _, rfl, hg, hcl, fun k hk => ?_, hy⟩
    have h2 := hat k hk
    rw [Go.Deep.add_add] at h2
    have e : (⟨g, o, none⟩ : Addr).add (i * P.cellsOf e + k) = ⟨g, o + i * P.cellsOf e + k, none⟩ := by
      unfold Addr.add
      split
      · rename_i hz
        simp only [Addr.mk.injEq, and_true, true_and]
        omega
      · simp [Nat.add_assoc]
    rw [e] at h2
    exact h2
/-- A struct's fields. -/
theorem field_cells {t : TypeId} {fs : Array Field} {fuel : Nat} {cs : List Value} {x : DataW H × List MemPlace} (ht : P.underlying t = some (.struct fs)) (h : DataW.trod enc P w base spare held fuel t cs = some x) :
    ∀ (i : Nat) (f : Field), fs[i]? = some f → ∃ n y, DataW.trod enc P w base spare held n f.type ((cs.drop f.offset).take (P.cellsOf f.type)) = some y := by
  obtain ⟨xs, n, _, _, _, hl, hf⟩ := DataW.trod_struct ht h
  intro i f hi
  have h1 := hf i f hi
  have hlt := (Array.getElem?_eq_some_iff.1 hi).1
  rw [List.getElem?_eq_getElem (by omega)] at h1
  exact ⟨n, _, h1⟩
/-- A parameter that is a slice. -/
theorem param_slice {r : Reach} {b0 : Nat} {t e : TypeId} {s : Nat} {v : Value} {d : DataW H} {p : List MemPlace} (ht : P.underlying t = some (.slice e)) (hs : P.cellsOf e = s) (h0 : 0 < s)
    (hv : Value.okWide P w r b0 t v) (h : DataW.Trod enc P w base spare held t v d p) :
    ∃ (A : Option Addr) (len cap : Nat), v = .slice A len cap ∧ len ≤ cap ∧ cap ≤ maxLen ∧ ∀ i, i < len → ∃ (g o n : Nat) (cs' : List Value) (y : DataW H × List MemPlace), A = some ⟨g, o, none⟩ ∧ g < w.heap.size ∧ cs'.length = s ∧
      (∀ k, k < s → w.cell? ⟨g, o + i * s + k, none⟩ = cs'[k]?) ∧ DataW.trod enc P w base spare held n e cs' = some y := by
  obtain ⟨fuel, hf⟩ := h
  obtain ⟨A, len, cap, hcs, h1, h2, h3⟩ := slice_cells ht hs h0 hf
  refine ⟨A, len, cap, ?_, h1, h2, h3⟩
  simp only [Value.okWide, ht, Cell.okWide] at hv
  unfold Cell.ok at hv
  rw [ht] at hv
  cases v <;> simp [Value.cells] at hcs hv ⊢
  · exact hcs
end
/-- Bytes that lie in memory that was there. -/
def BytesIn (W : World) (A : Option Addr) (l : List UInt8) : Prop := ∀ i b, l[i]? = some b → ∃ g o, A = some ⟨g, o, none⟩ ∧ g < W.heap.size ∧ W.cell? ⟨g, o + i, none⟩ = some (.int .u8 b.toNat)
section
variable {H : Type} {enc : TypeId × Value → H} {P : Program} {w : World} {base : Nat} {spare : Nat → Bool} {held : Bool}
theorem bytes_cells {t e : TypeId} {fuel : Nat} {cs : List Value} {x : DataW H × List MemPlace} (ht : P.underlying t = some (.slice e)) (he : P.underlying e = some (.int .u8)) (hc : P.cellsOf e = 1) (h : DataW.trod enc P w base spare held fuel t cs = some x) :
    ∃ (A : Option Addr) (c : Nat) (l : List UInt8), cs = [.slice A l.length c] ∧ l.length ≤ maxLen ∧ BytesIn w A l := by
  obtain ⟨A, len, cap, rfl, h1, h2, h3⟩ := slice_cells ht hc (by omega) h
  obtain ⟨l, rfl, hp⟩ := choose_list (α := UInt8) (p := fun i b => ∃ g o, A = some ⟨g, o, none⟩ ∧ g < w.heap.size ∧ w.cell? ⟨g, o + i, none⟩ = some (.int .u8 b.toNat)) len (fun i hi => by
    obtain ⟨g, o, n, cs', y, hA, hg, hl, hcell, hy⟩ := h3 i hi
    obtain ⟨a, rfl, _, wa⟩ := DataW.trod_int he hy
    have hb := bounds_u8 wa
    have h4 := hcell 0 (by omega)
    refine ⟨UInt8.ofNat a.toNat, g, o, hA, hg, ?_⟩
    have e : ((UInt8.ofNat a.toNat).toNat : Int) = a := by
      rw [UInt8.toNat_ofNat', Nat.mod_eq_of_lt (by omega)]
      omega
    rw [e]
    simpa using h4)
  exact ⟨A, cap, l, rfl, by omega, hp⟩
theorem bools_cells {t e : TypeId} {fuel : Nat} {cs : List Value} {x : DataW H × List MemPlace} (ht : P.underlying t = some (.slice e)) (he : P.underlying e = some .bool) (hc : P.cellsOf e = 1) (h : DataW.trod enc P w base spare held fuel t cs = some x) :
    ∃ (A : Option Addr) (c : Nat) (l : List Bool), cs = [.slice A l.length c] ∧ l.length ≤ maxLen ∧ ∀ i b, l[i]? = some b → ∃ q, A = some q ∧ (q.add i).block < w.heap.size ∧ w.cell? (q.add i) = some (.bool b) := by
  obtain ⟨A, len, cap, rfl, h1, h2, h3⟩ := slice_cells ht hc (by omega) h
  obtain ⟨l, rfl, hp⟩ := choose_list (α := Bool) (p := fun i b => ∃ q, A = some q ∧ (q.add i).block < w.heap.size ∧ w.cell? (q.add i) = some (.bool b)) len (fun i hi => by
    obtain ⟨g, o, n, cs', y, hA, hg, hl, hcell, hy⟩ := h3 i hi
    obtain ⟨a, rfl, _⟩ := DataW.trod_bool he hy
    have h4 := hcell 0 (by omega)
    have e : (⟨g, o, none⟩ : Addr).add i = ⟨g, o + i, none⟩ := by unfold Addr.add; split <;> simp_all
    refine ⟨a, _, hA, ?_, ?_⟩
    · rw [e]; exact hg
    · rw [e]; simpa using h4)
  exact ⟨A, cap, l, rfl, by omega, hp⟩
/-- A parameter of one cell that is a slice: its cells are its value. -/
theorem slice_value {r : Reach} {b0 : Nat} {t e : TypeId} {v u : Value} (ht : P.underlying t = some (.slice e)) (hv : Value.okWide P w r b0 t v) (h : v.cells.toList = [u]) : v = u := by
  simp only [Value.okWide, ht, Cell.okWide] at hv
  unfold Cell.ok at hv
  rw [ht] at hv
  cases v <;> simp [Value.cells] at h hv ⊢
  · exact h
theorem param_bytes {r : Reach} {b0 : Nat} {t e : TypeId} {v : Value} {d : DataW H} {p : List MemPlace} (ht : P.underlying t = some (.slice e)) (he : P.underlying e = some (.int .u8)) (hc : P.cellsOf e = 1)
    (hv : Value.okWide P w r b0 t v) (h : DataW.Trod enc P w base spare held t v d p) : ∃ (A : Option Addr) (c : Nat) (l : List UInt8), v = .slice A l.length c ∧ l.length ≤ maxLen ∧ BytesIn w A l := by
  obtain ⟨fuel, hf⟩ := h
  obtain ⟨A, c, l, hcs, h1, h2⟩ := bytes_cells ht he hc hf
  exact ⟨A, c, l, slice_value ht hv hcs, h1, h2⟩
theorem param_bools {r : Reach} {b0 : Nat} {t e : TypeId} {v : Value} {d : DataW H} {p : List MemPlace} (ht : P.underlying t = some (.slice e)) (he : P.underlying e = some .bool) (hc : P.cellsOf e = 1)
    (hv : Value.okWide P w r b0 t v) (h : DataW.Trod enc P w base spare held t v d p) : ∃ (A : Option Addr) (c : Nat) (l : List Bool), v = .slice A l.length c ∧ l.length ≤ maxLen ∧ ∀ i b, l[i]? = some b → ∃ q, A = some q ∧ (q.add i).block < w.heap.size ∧ w.cell? (q.add i) = some (.bool b) := by
  obtain ⟨fuel, hf⟩ := h
  obtain ⟨A, c, l, hcs, h1, h2⟩ := bools_cells ht he hc hf
  exact ⟨A, c, l, slice_value ht hv hcs, h1, h2⟩
end
end Go.Cu
/- Slices of bytes that lie somewhere: of each the bytes that it has. -/
namespace Go.Cu
open Go Go.RowKit
/-- The bytes r lie behind A, in blocks of F. -/
def BytesF (F : Nat → Prop) (W : World) (A : Option Addr) (r : List UInt8) : Prop := ∀ (k : Nat) (b : UInt8), r[k]? = some b → ∃ g o, A = some ⟨g, o, none⟩ ∧ F g ∧ g < W.heap.size ∧ W.cell? ⟨g, o + k, none⟩ = some (.int .u8 b.toNat)
theorem BytesF.keep {F : Nat → Prop} {W W' : World} {A : Option Addr} {r : List UInt8} (h : BytesF F W A r) (hk : ∀ g, g < W.heap.size → F g → W'.heap[g]? = W.heap[g]?) : BytesF F W' A r := fun k b hb => by
  obtain ⟨g, o, e, hf, hg, hc⟩ := h k b hb
  have hh := hk g hg hf
  have hb' : W'.heap[(⟨g, o + k, none⟩ : Addr).block]? = W.heap[(⟨g, o + k, none⟩ : Addr).block]? := hh
  refine ⟨g, o, e, hf, ?_, ?_⟩
  · rcases Nat.lt_or_ge g W'.heap.size with h1 | h1
    · exact h1
    · rw [Array.getElem?_eq_none h1] at hh
      rw [Array.getElem?_eq_getElem hg] at hh
      cases hh
  · rw [World.cell?_of_block (a := ⟨g, o + k, none⟩) hb']
    exact hc
theorem BytesF.mono {F G : Nat → Prop} {W : World} {A : Option Addr} {r : List UInt8} (h : BytesF F W A r) (hm : ∀ g, g < W.heap.size → F g → G g) : BytesF G W A r := fun k b hb => by
  obtain ⟨g, o, e, hf, hg, hc⟩ := h k b hb
  exact ⟨g, o, e, hm g hg hf, hg, hc⟩
/-- Of each of the values the bytes. -/
def ValsIn (F : Nat → Prop) (W : World) (xs : List Value) (rs : List (List UInt8)) : Prop :=
  xs.length = rs.length ∧ ∀ (i : Nat) (r : List UInt8), rs[i]? = some r → ∃ A c, xs[i]? = some (.slice A r.length c) ∧ r.length ≤ c ∧ c ≤ maxLen ∧ BytesF F W A r
def Vals (xs : List Value) (rs : List (List UInt8)) : Atm :=
  ⟨fun F W => ValsIn F W xs rs, fun {F W W'} h hk => ⟨h.1, fun i r hi => by
    obtain ⟨A, c, e, h1, h2, hb⟩ := h.2 i r hi
    exact ⟨A, c, e, h1, h2, hb.keep hk⟩⟩, fun {F G W} h hm => ⟨h.1, fun i r hi => by
    obtain ⟨A, c, e, h1, h2, hb⟩ := h.2 i r hi
    exact ⟨A, c, e, h1, h2, hb.mono hm⟩⟩⟩
theorem ValsIn.join {F : Nat → Prop} {W : World} {xs ys : List Value} {rs ss : List (List UInt8)} (h : ValsIn F W xs rs) (h' : ValsIn F W ys ss) : ValsIn F W (xs ++ ys) (rs ++ ss) := by
  refine ⟨by rw [List.length_append, List.length_append, h.1, h'.1], fun i r hi => ?_⟩
  rcases Nat.lt_or_ge i rs.length with hl | hl
  · rw [List.getElem?_append_left hl] at hi
    rw [List.getElem?_append_left (by rw [h.1]; exact hl)]
    exact h.2 i r hi
  · rw [List.getElem?_append_right hl] at hi
    rw [List.getElem?_append_right (by rw [h.1]; exact hl), h.1]
    exact h'.2 _ r hi
section
variable {W0 W W' : World} {L : List Atm}
theorem St.vals_nil (h : St W0 L W) : St W0 (Vals [] [] :: L) W := h.push (Below.refl _ _) ⟨rfl, fun i r hi => by cases hi⟩
theorem St.vals_join {xs ys : List Value} {rs ss : List (List UInt8)} (h : St W0 (Vals xs rs :: Vals ys ss :: L) W) : St W0 (Vals (xs ++ ys) (rs ++ ss) :: L) W := by
  obtain ⟨hb, G, ha, H, hb', r⟩ := h
  refine ⟨hb, fun g => G g ∨ H g, ?_, r.mono fun g _ hf => ⟨hf.1.1, fun h => h.elim hf.1.2 hf.2⟩⟩
  exact ValsIn.join ((Vals xs rs).mono ha fun g _ hf => ⟨hf.1, .inl hf.2⟩) ((Vals ys ss).mono hb' fun g _ hf => ⟨hf.1.1, .inr hf.2⟩)
theorem St.vals {xs : List Value} {rs : List (List UInt8)} (h : St W0 (Vals xs rs :: L) W) : ValsIn (fun g => W0.heap.size ≤ g) W xs rs := by
  obtain ⟨F, ha, hf, _⟩ := h.first
  exact (Vals xs rs).mono ha fun g _ hg => (hf g hg).1
theorem BytesF.bytes {F : Nat → Prop} {A : Option Addr} {r : List UInt8} (h : BytesF F W A r) : BytesIn W A r := fun k b hb => by
  obtain ⟨g, o, e, _, hg, hc⟩ := h k b hb
  exact ⟨g, o, e, hg, hc⟩
/-- A row of bytes, cut: one slice. -/
theorem St.cut_row {v : Value} {e n s : Nat} {bs : List UInt8} {A : Option Addr} {c : Nat} (h : St W0 (Row v e 1 n (bs.map fun b => Value.int .u8 b.toNat) :: L) W) (hv : v = .slice A n c) (hs : s ≤ n) (h0 : 0 < n) :
    St W0 (Vals [.slice A s s] [bs.take s] :: L) W := by
  have hx := h.row.1
  simp only [List.length_map, Nat.mul_one] at hx
  obtain ⟨F, ha, hF, hr⟩ := h.first
  refine hr _ _ ?_ (Tch.refl _ _)
  refine ⟨rfl, fun i r hi => ?_⟩
  match i with
  | i + 1 => cases hi
  | 0 =>
  have hi' : bs.take s = r := by simpa using hi
  subst hi'
  have hl : (bs.take s).length = s := by rw [List.length_take]; omega
  rcases ha.2.2 with ⟨_, h1⟩ | ⟨g, cap, cur, e1, _, hh, hc, hm, _, hp⟩
  · omega
  · have e2 : A = some ⟨g, 0, none⟩ ∧ c = cap := by rw [hv] at e1; injection e1 with p1 p2 p3; exact ⟨p1, p3⟩
    refine ⟨A, s, by rw [hl]; rfl, by omega, by omega, fun k b hb => ?_⟩
    have hk : k < s := by
      rcases Nat.lt_or_ge k s with h | h
      · exact h
      · rw [List.getElem?_eq_none (by rw [hl]; exact h)] at hb; cases hb
    rw [List.getElem?_take_of_lt hk] at hb
    refine ⟨g, 0, e2.1, .inl (ha.1 g (by rw [e1]; rfl)), heap_lt hh, ?_⟩
    rw [cell_of_row W g (0 + k) _ _ _ hh, Nat.zero_add]
    have h3 : (cur.toList.take (n * 1))[k]? = some (Value.int .u8 b.toNat) := by rw [hp, List.getElem?_map, hb]; rfl
    rw [Nat.mul_one, List.getElem?_take_of_lt (by omega)] at h3
    simpa using h3
end
end Go.Cu
/- More orders of what lies side by side. -/
namespace Go.Cu
open Go Go.RowKit
section
variable {W0 W : World} {L : List Atm} {a b c d e f g : Atm}
theorem St.at5 (h : St W0 (a :: b :: c :: d :: e :: L) W) : St W0 (e :: a :: b :: c :: d :: L) W := h.perm (List.perm_middle (l₁ := [a, b, c, d]))
theorem St.back5 (h : St W0 (e :: a :: b :: c :: d :: L) W) : St W0 (a :: b :: c :: d :: e :: L) W := h.perm (List.perm_middle (l₁ := [a, b, c, d])).symm
theorem St.at6 (h : St W0 (a :: b :: c :: d :: e :: f :: L) W) : St W0 (f :: a :: b :: c :: d :: e :: L) W := h.perm (List.perm_middle (l₁ := [a, b, c, d, e]))
theorem St.back6 (h : St W0 (f :: a :: b :: c :: d :: e :: L) W) : St W0 (a :: b :: c :: d :: e :: f :: L) W := h.perm (List.perm_middle (l₁ := [a, b, c, d, e])).symm
theorem St.at7 (h : St W0 (a :: b :: c :: d :: e :: f :: g :: L) W) : St W0 (g :: a :: b :: c :: d :: e :: f :: L) W := h.perm (List.perm_middle (l₁ := [a, b, c, d, e, f]))
theorem St.back7 (h : St W0 (g :: a :: b :: c :: d :: e :: f :: L) W) : St W0 (a :: b :: c :: d :: e :: f :: g :: L) W := h.perm (List.perm_middle (l₁ := [a, b, c, d, e, f])).symm
theorem St.rot2 (h : St W0 (a :: b :: c :: d :: L) W) : St W0 (c :: d :: a :: b :: L) W := h.at3.at4.at2
theorem St.drop4 (h : St W0 (a :: b :: c :: d :: L) W) : St W0 (a :: b :: c :: L) W := h.at4.drop
theorem St.drop5 (h : St W0 (a :: b :: c :: d :: e :: L) W) : St W0 (a :: b :: c :: d :: L) W := h.at5.drop
/-- Things that lie in one list may be taken apart or put together at will: only the ones that are wanted. -/
theorem St.sub {M : List Atm} (h : St W0 (M ++ L) W) : St W0 L W := by
  induction M with
  | nil => exact h
  | cons a M ih => exact ih h.drop
end
end Go.Cu
/- A region that draws its order: the first n operations quiet in a class of worlds, the rest in one forced order from whatever world of the class. -/
namespace Go.Cu
open Go Go.RowKit
section
variable {P : Program} {ops : Array Oper} {md : Region.Mode} {C : World → Prop}

/-- Whatever order of the head, up to a condition on what is listed. -/
def headQ (P : Program) (md : Region.Mode) (ops : Array Oper) (C : World → Prop) (n : Nat) (L : Array Bool → Act → Prop) : Nat → Array Bool → Act → Prop
  | 0, listed, a => L listed a
  | f + 1, listed, a => Region.ready md ops listed ≠ [] ∧ ∀ i ∈ Region.ready md ops listed, i < n ∧ qOp P ops C i (headQ P md ops C n L f (listed.setIfInBounds i true)) a

theorem wpAny_of_headQ {n g : Nat} {L : Array Bool → Act → Prop} {Q' : Exit → Act → World → Prop} (hL : ∀ listed a w, C w → L listed a → wpAny P md ops Q' g listed a w) :
    ∀ (f : Nat) (listed : Array Bool) (a : Act) (w : World), C w → headQ P md ops C n L f listed a → wpAny P md ops Q' (f + g) listed a w
  | 0, _, _, _, hw, h => by rw [Nat.zero_add]; exact hL _ _ _ hw h
  | f + 1, listed, a, w, hw, h => by
    rw [show f + 1 + g = (f + g) + 1 by omega]
    exact ⟨fun h0 => absurd h0 h.1, fun i hi => wpOp_of_qOp hw (fun a' w' hw' h' => wpAny_of_headQ hL f _ a' w' hw' h') (h.2 i hi).2⟩

theorem headQ_first {n i : Nat} {oi : Oper} {v : Value} {L : Array Bool → Act → Prop} (hi : ops[i]? = some oi) (hsel : ∀ (j : Nat) (o : Oper) cs b, ops[j]? = some o → o.op ≠ .select cs b)
    (hs : Region.sinkB md ops n = true) (hc : Region.chainB md ops n = true) (hn : n < ops.size) (hin : i < n)
    (hdone : ∀ listed a, L listed a → ∀ j ∈ Region.ready md ops listed, n ≤ j) :
    ∀ (f : Nat) (listed : Array Bool) (a : Act), HeadInv md ops n listed →
      (∀ j oj, ops[j]? = some oj → j ≠ i → listed.getD j true = false → (∀ e ∈ oj.after, Region.binds md e = true → e.on ≠ i) → oi.apart ops oj = true) →
      i ∈ Region.ready md ops listed → YieldsIn P ops C oi v a →
      headQ P md ops C n L f (listed.setIfInBounds i true) (a.put oi.dst v) → headQ P md ops C n L (f + 1) listed a := by
  intro f
  induction f with
  | zero =>
    intro listed a inv _ hr hy H
    have hun := (mem_ready.1 hr).1
    refine ⟨fun h => (by rw [h] at hr; cases hr), fun j hj => ?_⟩
    have hjn : j < n := by
      rcases Nat.lt_or_ge j n with h | h
      · exact h
      · exact absurd hj (tail_waits hs hc hn inv _ i rfl hin hun j h)
    refine ⟨hjn, ?_⟩
    by_cases hji : j = i
    · subst hji; exact hy.qOp hi H
    · have := hdone _ _ H j (ready_mono hj hji)
      omega
  | succ f ih =>
    intro listed a inv hfree hr hy H
    have hun := (mem_ready.1 hr).1
    refine ⟨fun h => (by rw [h] at hr; cases hr), fun j hj => ?_⟩
    have hjn : j < n := by
      rcases Nat.lt_or_ge j n with h | h
      · exact h
      · exact absurd hj (tail_waits hs hc hn inv _ i rfl hin hun j h)
    refine ⟨hjn, ?_⟩
    by_cases hji : j = i
    · subst hji; exact hy.qOp hi H
    · have h1 := (H.2 j (ready_mono hj hji)).2
      obtain ⟨hjun, oj, hoj, hall⟩ := mem_ready.1 hj
      have hnot : ∀ e ∈ oj.after, Region.binds md e = true → e.on ≠ i := fun e he hb heq => by
        have h1 := hall e he hb
        rw [heq, getD_both hun] at h1
        cases h1
      have h2 := qOp_put hoj (hfree j oj hoj hji hjun hnot) (fun cs b => hsel i oi cs b hi) (fun cs b => hsel j oj cs b hoj) hy h1
      have hfree' : ∀ k ok, ops[k]? = some ok → k ≠ i → (listed.setIfInBounds j true).getD k true = false →
          (∀ e ∈ ok.after, Region.binds md e = true → e.on ≠ i) → oi.apart ops ok = true := fun k ok hk hki hun hno => by
        refine hfree k ok hk hki ?_ hno
        by_cases hjk : j = k
        · subst hjk; exact hjun
        · rw [getD_set_ne true hjk] at hun; exact hun
      refine qOp_mono (fun a' h3 => ih (listed.setIfInBounds j true) a' (inv.set hj hjn) hfree' (ready_mono hr (Ne.symm hji)) h3.1 ?_) h2
      rw [Array.setIfInBounds_comm _ _ hji]
      exact h3.2

theorem headQ_lex {n g : Nat} {Lq : Act → Prop} (hsel : Region.noSelect ops = true) (hs : Region.sinkB md ops n = true) (hc : Region.chainB md ops n = true) (hn : n < ops.size) :
    ∀ (l : List Oper) (k : Nat) (listed : Array Bool) (a : Act), (∀ j, j < l.length → l[j]? = ops[k + j]?) → k + l.length = n → HeadInv md ops n listed →
    Region.lexHead md ops g l.length k listed = true → wpQuiet P ops C Lq l a →
    headQ P md ops C n (fun listed' a' => Region.seqB md ops g n listed' = true ∧ Lq a') l.length listed a
  | [], k, _, _, _, hk, _, hB, h => by
    have : k = n := by simpa using hk
    subst this
    exact ⟨by simpa [Region.lexHead] using hB, h⟩
  | o :: l, k, listed, a, hl, hk, inv, hB, h => by
    have h0 : ops[k]? = some o := by simpa using (hl 0 (by simp)).symm
    simp only [List.length_cons, Region.lexHead, Bool.and_eq_true] at hB
    obtain ⟨⟨hr, hf⟩, hB'⟩ := hB
    have hkn : k < n := by simp only [List.length_cons] at hk; omega
    have hr' : k ∈ Region.ready md ops listed := by simpa using hr
    have hst : qOp P ops C k (wpQuiet P ops C Lq l) a := by unfold qOp; simp only [h0]; exact h
    obtain ⟨v, hy, hK⟩ := yieldsIn_of_qOp h0 hst
    exact headQ_first h0 (Region.noSelect_spec hsel) hs hc hn hkn (fun listed' a' hL => seqB_ready hL.1) l.length listed a inv (Region.free_spec h0 hf) hr' hy
      (headQ_lex hsel hs hc hn l (k + 1) _ _ (fun j hj => by have := hl (j + 1) (by simp; omega); simpa [Nat.add_assoc, Nat.add_comm 1 j] using this) (by simp only [List.length_cons] at hk; omega) (inv.set hr' hkn) hB' hK)

/-- The head quiet in the class, the tail in its one order. -/
theorem wp_region_class_tail {id : Nat} {Q : Exit → Act → World → Prop} {a : Act} {w : World} {l : List Oper} (n : Nat) (C : World → Prop) (hm : P.follows .mixedOrders = true) (hB : Region.lexTailB .any l.toArray n = true) (hC : C w.drew)
    (h : wpQuiet P l.toArray C (fun a' => ∀ w', C w' → wpList P l.toArray Q (l.drop n) a' w') (l.take n) a) : (Code.region id l.toArray true).wp P Q a w := by
  simp only [Region.lexTailB, Bool.and_eq_true, decide_eq_true_eq] at hB
  obtain ⟨⟨⟨⟨hsel, hn⟩, hs⟩, hc⟩, hlex⟩ := hB
  have hn' : n < l.length := by simpa using hn
  have htl : (l.take n).length = n := by simp; omega
  have hdl : (l.drop n).length = l.toArray.size - n := by simp
  have inv0 : HeadInv .any l.toArray n (Array.replicate l.toArray.size false) :=
    ⟨by simp, fun j oj _ hl => (by rw [getD_replicate_false] at hl; cases hl), fun t _ ht => getD_in (by simpa using ht) (getD_replicate_false _ _)⟩
  have H := headQ_lex (md := .any) (g := l.toArray.size - n) hsel hs hc hn (l.take n) 0 _ a (fun j hj => by
    have hj' : j < n := by rw [htl] at hj; exact hj
    simp [hj']) (by simpa using htl) inv0 (by rw [htl]; exact hlex) h
  refine wp_region_any hm ?_
  have := wpAny_of_headQ (Q' := Q) (g := l.toArray.size - n) (fun listed a' w' hw' hL => by
    have := wpAny_of_seq (md := .any) (Q' := Q) (l.drop n) n listed a' w' (fun j => by simp [List.getElem?_drop]) (by rw [hdl]; exact hL.1) (hL.2 w' hw')
    rwa [hdl] at this) _ _ _ _ hC H
  rw [htl, show n + (l.toArray.size - n) = l.toArray.size by omega] at this
  exact this
end
end Go.Cu
/- A disk in memory; what it answers that only reads it. -/
namespace Go.Proofs.YthmchbdhikakhaaDoor
open Go.RowKit Go.Cu

/-- The disk S lies in memory: its struct is block p; all its blocks are of F. -/
structure DiskAt (W : World) (p : Nat) (F : Nat → Prop) (S : DS) (pn pl : Nat) (wv : Value) : Prop where
  op : F p
  on : F pn
  ol : F pl
  ow : ∀ g, wv.ownBlock = some g → F g
  ne : pn ≠ pl
  box : W.heap[p]? = some (.cells #[.slice (some ⟨pn, 0, none⟩) S.now.length S.now.length, .slice (some ⟨pl, 0, none⟩) S.now.length S.now.length, wv, .int .i64 S.writes, .int .i64 S.armed, .bool S.off] 50 (0, 0))
  now : W.heap[pn]? = some (.cells (flat S.now) 64 (0, 0))
  last : W.heap[pl]? = some (.cells (flat S.last) 64 (0, 0))
  wait : W.ownsRow 0 79 129 wv S.wait.length (waitL S.wait)
def DiskIn (W : World) (p : Nat) (F : Nat → Prop) (S : DS) : Prop := ∃ pn pl wv, DiskAt W p F S pn pl wv

theorem lt_of_heap {W : World} {g : Nat} {o : Obj} (h : W.heap[g]? = some o) : g < W.heap.size := by
  rcases Nat.lt_or_ge g W.heap.size with h1 | h1
  · exact h1
  · rw [Array.getElem?_eq_none h1] at h; cases h
theorem own_lt {W : World} {b e s n : Nat} {v : Value} {xs : List Value} (h : W.ownsRow b e s v n xs) {g : Nat} (hg : v.ownBlock = some g) : g < W.heap.size := by
  rcases h.2 with ⟨rfl, _⟩ | ⟨g', c, cur, rfl, _, hh, _⟩
  · simp [Value.ownBlock] at hg
  · have : g' = g := by simpa [Value.ownBlock] using hg
    subst this
    exact lt_of_heap hh
theorem own_keep {W W' : World} {b e s n : Nat} {v : Value} {xs : List Value} (h : W.ownsRow b e s v n xs) (hk : ∀ g, v.ownBlock = some g → W'.heap[g]? = W.heap[g]?) : W'.ownsRow b e s v n xs := by
  refine ⟨h.1, ?_⟩
  rcases h.2 with h' | ⟨g, c, cur, rfl, hb, hh, r⟩
  · exact .inl h'
  · exact .inr ⟨g, c, cur, rfl, hb, (hk g (by simp [Value.ownBlock])).trans hh, r⟩

section
variable {W W' : World} {p : Nat} {F G : Nat → Prop} {S : DS} {pn pl : Nat} {wv : Value}
theorem DiskAt.keep (h : DiskAt W p F S pn pl wv) (hk : ∀ g, g < W.heap.size → F g → W'.heap[g]? = W.heap[g]?) : DiskAt W' p F S pn pl wv :=
  ⟨h.op, h.on, h.ol, h.ow, h.ne, (hk p (lt_of_heap h.box) h.op).trans h.box, (hk pn (lt_of_heap h.now) h.on).trans h.now, (hk pl (lt_of_heap h.last) h.ol).trans h.last,
    own_keep h.wait fun g hg => hk g (own_lt h.wait hg) (h.ow g hg)⟩
theorem heap_ne {g g' : Nat} {t t' : TypeId} {c c' : Array Value} {fr fr' : Nat × Nat} (h : W.heap[g]? = some (.cells c t fr)) (h' : W.heap[g']? = some (.cells c' t' fr')) (hne : t ≠ t') : g ≠ g' := by
  rintro rfl
  rw [h] at h'
  injection h' with h'
  injection h' with _ ht
  exact hne ht
theorem own_ne {b e s n : Nat} {v : Value} {xs : List Value} (h : W.ownsRow b e s v n xs) {g : Nat} {t : TypeId} {c : Array Value} {fr : Nat × Nat} (hg : W.heap[g]? = some (.cells c t fr)) (hne : e ≠ t) : v.ownBlock ≠ some g := by
  rcases h.2 with ⟨rfl, _⟩ | ⟨g', cap, cur, rfl, _, hh, _⟩
  · simp [Value.ownBlock]
  · intro he
    have : g' = g := by simpa [Value.ownBlock] using he
    subst this
    exact heap_ne hh hg hne rfl
theorem DiskAt.below (h : DiskAt W p F S pn pl wv) (hb : Below W.heap.size W W') : DiskAt W' p F S pn pl wv := h.keep fun g hg _ => hb.block g hg
theorem DiskIn.keep (h : DiskIn W p F S) (hk : ∀ g, g < W.heap.size → F g → W'.heap[g]? = W.heap[g]?) : DiskIn W' p F S := by
  obtain ⟨pn, pl, wv, h⟩ := h
  exact ⟨pn, pl, wv, h.keep hk⟩
theorem DiskIn.below (h : DiskIn W p F S) (hb : Below W.heap.size W W') : DiskIn W' p F S := h.keep fun g hg _ => hb.block g hg
theorem DiskIn.tch (h : DiskIn W p F S) (ht : Tch G W W') (hd : ∀ g, g < W.heap.size → F g → ¬ G g) : DiskIn W' p F S := h.keep fun g hg hf => ht.block g hg (hd g hg hf)
theorem DiskIn.mono (h : DiskIn W p F S) (hm : ∀ g, g < W.heap.size → F g → G g) : DiskIn W p G S := by
  obtain ⟨pn, pl, wv, h⟩ := h
  exact ⟨pn, pl, wv, hm p (lt_of_heap h.box) h.op, hm pn (lt_of_heap h.now) h.on, hm pl (lt_of_heap h.last) h.ol, fun g hg => hm g (own_lt h.wait hg) (h.ow g hg), h.ne, h.box, h.now, h.last, h.wait⟩
theorem DiskIn.lt (h : DiskIn W p F S) : p < W.heap.size := by
  obtain ⟨pn, pl, wv, h⟩ := h
  exact lt_of_heap h.box
theorem DiskIn.cells (h : DiskIn W p F S) : ∃ pn pl wv, W.cell? ⟨p, 0, none⟩ = some (.slice (some ⟨pn, 0, none⟩) S.now.length S.now.length) ∧ W.cell? ⟨p, 2, none⟩ = some wv ∧ W.cell? ⟨p, 3, none⟩ = some (.int .i64 S.writes) ∧
    W.cell? ⟨p, 4, none⟩ = some (.int .i64 S.armed) ∧ W.cell? ⟨p, 5, none⟩ = some (.bool S.off) ∧ DiskAt W p F S pn pl wv := by
  obtain ⟨pn, pl, wv, h⟩ := h
  refine ⟨pn, pl, wv, ?_, ?_, ?_, ?_, ?_, h⟩ <;> rw [cell_of_row W p _ _ _ _ h.box] <;> rfl
end

set_option maxHeartbeats 400000 in
theorem may_nil (w : World) : Calls Tryd.prog 31 #[.pointer none] w fun e w' => e = .returned (.int .i64 1) ∧ w = w' := by
  go_enter Tryd.func31, Tryd.ntmps31
  go_wp2
  go_ret
  exact ⟨rfl, rfl⟩
set_option maxHeartbeats 400000 in
theorem may_any {p : Nat} {F : Nat → Prop} {S : DS} {w : World} (h : DiskIn w p F S) : Calls Tryd.prog 31 #[.pointer (some ⟨p, 0, none⟩)] w fun e w' => e = .returned (.int .i64 S.may) ∧ w = w' := by
  obtain ⟨pn, pl, wv, _, _, _, _, h5, _⟩ := h.cells
  unfold DS.may
  cases ho : S.off
  all_goals
    rw [ho] at h5
    clear ho h
    go_enter Tryd.func31, Tryd.ntmps31
    go_wp2
    go_ret
    exact ⟨rfl, rfl⟩
set_option maxHeartbeats 400000 in
theorem at_nil (i : Int) (w : World) : Calls Tryd.prog 30 #[.pointer none, .int .i64 i] w fun e w' => e = .returned (.int .i64 1) ∧ w = w' := by
  go_enter Tryd.func30, Tryd.ntmps30
  go_wp2_with (go_at_call 31; refine (may_nil _).mono ?_; rintro e w' ⟨rfl, rfl⟩)
  go_ret
  exact ⟨rfl, rfl⟩
set_option maxHeartbeats 400000 in
theorem at_any {p : Nat} {F : Nat → Prop} {S : DS} {w : World} {N : Nat} (h : DiskIn w p F S) (hok : S.Ok N) (i : Int) : Calls Tryd.prog 30 #[.pointer (some ⟨p, 0, none⟩), .int .i64 i] w fun e w' => e = .returned (.int .i64 (S.at_ i)) ∧ w = w' := by
  have hm := hid (may_any h)
  have hb := hok.big
  obtain ⟨pn, pl, wv, h0, _, _, _, _, _⟩ := h.cells
  clear h hok
  unfold DS.at_
  cases ho : S.off
  · have hmay : S.may = 0 := by simp [DS.may, ho]
    rw [hmay] at hm
    clear hmay ho
    simp only [Bool.false_eq_true, if_false]
    by_cases h1 : i < 0
    · rw [if_pos (.inl h1)]
      go_enter Tryd.func30, Tryd.ntmps30
      go_wp2_with (go_at_call 31; refine hm.out.mono ?_; rintro e w' ⟨rfl, rfl⟩)
      go_ret
      exact ⟨rfl, rfl⟩
    · by_cases h2 : (S.now.length : Int) ≤ i
      · rw [if_pos (.inr h2)]
        go_enter Tryd.func30, Tryd.ntmps30
        go_wp2_with (go_at_call 31; refine hm.out.mono ?_; rintro e w' ⟨rfl, rfl⟩)
        go_ret
        exact ⟨rfl, rfl⟩
      · rw [if_neg (by omega)]
        go_enter Tryd.func30, Tryd.ntmps30
        go_wp2_with (go_at_call 31; refine hm.out.mono ?_; rintro e w' ⟨rfl, rfl⟩)
        go_ret
        exact ⟨rfl, rfl⟩
  · have hmay : S.may = 13 := by simp [DS.may, ho]
    rw [hmay] at hm
    clear hmay ho
    simp only [if_true]
    go_enter Tryd.func30, Tryd.ntmps30
    go_wp2_with (go_at_call 31; refine hm.out.mono ?_; rintro e w' ⟨rfl, rfl⟩)
    go_ret
    exact ⟨rfl, rfl⟩
end Go.Proofs.YthmchbdhikakhaaDoor
/- Keys of 256 bits, plainly: bits, the count of bits that two keys begin with alike, the order. No program. -/
namespace Go.Cu

/-- The i-th bit, from the highest of the first byte on. -/
def bitN (l : List UInt8) (i : Nat) : Nat := (l.getD (i / 8) 0).toNat / 2 ^ (7 - i % 8) % 2
theorem bitN_lt (l : List UInt8) (i : Nat) : bitN l i < 2 := Nat.mod_lt _ (by decide)

/-- c is how many bits two keys begin with alike. -/
def IsCm (k l : List UInt8) (c : Nat) : Prop := c ≤ 256 ∧ (∀ j, j < c → bitN k j = bitN l j) ∧ (c < 256 → bitN k c ≠ bitN l c)
def cm (k l : List UInt8) : Nat := ((List.range 256).find? fun i => bitN k i != bitN l i).getD 256

theorem cm_is (k l : List UInt8) : IsCm k l (cm k l) := by
  unfold cm
  cases h : (List.range 256).find? fun i => bitN k i != bitN l i with
  | none =>
    rw [List.find?_eq_none] at h
    refine ⟨Nat.le_refl _, fun j hj => ?_, fun hc => absurd hc (by simp)⟩
    have := h j (List.mem_range.2 (by simpa using hj))
    simpa using this
  | some i =>
    rw [List.find?_range_eq_some] at h
    obtain ⟨hp, hm, hb⟩ := h
    have hi : i < 256 := by simpa using hm
    refine ⟨Nat.le_of_lt hi, fun j hj => ?_, fun _ => by simpa using hp⟩
    have := hb j (by simpa using hj)
    simpa using this

theorem IsCm.unique {k l : List UInt8} {c d : Nat} (h : IsCm k l c) (h' : IsCm k l d) : c = d := by
  rcases Nat.lt_trichotomy c d with hlt | he | hlt
  · exact absurd (h'.2.1 c hlt) (h.2.2 (Nat.lt_of_lt_of_le hlt h'.1))
  · exact he
  · exact absurd (h.2.1 d hlt) (h'.2.2 (Nat.lt_of_lt_of_le hlt h.1))
theorem IsCm.eq {k l : List UInt8} {c : Nat} (h : IsCm k l c) : c = cm k l := h.unique (cm_is k l)
theorem cm_le (k l : List UInt8) : cm k l ≤ 256 := (cm_is k l).1
theorem cm_self (k : List UInt8) : cm k k = 256 := ((show IsCm k k 256 from ⟨Nat.le_refl _, fun _ _ => rfl, fun h => absurd h (by decide)⟩).eq).symm
theorem cm_symm (k l : List UInt8) : cm k l = cm l k := by
  obtain ⟨h1, h2, h3⟩ := cm_is k l
  exact IsCm.eq ⟨h1, fun j hj => (h2 j hj).symm, fun h e => h3 h e.symm⟩
/-- Of three keys the least count stands twice. -/
theorem cm_three (a b c : List UInt8) : min (cm a b) (cm b c) ≤ cm a c := by
  obtain ⟨h1, h2, h3⟩ := cm_is a c
  rcases Nat.lt_or_ge (cm a c) (min (cm a b) (cm b c)) with h | h
  · have hl1 : cm a c < cm a b := Nat.lt_of_lt_of_le h (Nat.min_le_left _ _)
    have hl2 : cm a c < cm b c := Nat.lt_of_lt_of_le h (Nat.min_le_right _ _)
    have e1 := (cm_is a b).2.1 _ hl1
    have e2 := (cm_is b c).2.1 _ hl2
    exact absurd (e1.trans e2) (h3 (Nat.lt_of_lt_of_le hl1 (cm_le a b)))
  · exact h

theorem byte_of_bits (a b : Nat) (ha : a < 256) (hb : b < 256) (h : ∀ p, p < 8 → a / 2 ^ (7 - p) % 2 = b / 2 ^ (7 - p) % 2) : a = b := by
  have h0 := h 0 (by decide); have h1 := h 1 (by decide); have h2 := h 2 (by decide); have h3 := h 3 (by decide)
  have h4 := h 4 (by decide); have h5 := h 5 (by decide); have h6 := h 6 (by decide); have h7 := h 7 (by decide)
  simp only [Nat.sub_zero, Nat.reducePow, Nat.reduceSub] at h0 h1 h2 h3 h4 h5 h6 h7
  omega

theorem bitN_byte (l : List UInt8) (n p : Nat) (hp : p < 8) : bitN l (8 * n + p) = (l.getD n 0).toNat / 2 ^ (7 - p) % 2 := by
  unfold bitN
  rw [show (8 * n + p) / 8 = n by omega, show (8 * n + p) % 8 = p by omega]

theorem ext_bytes {k l : List UInt8} (hk : k.length = 32) (hl : l.length = 32) (h : ∀ n, n < 32 → k.getD n 0 = l.getD n 0) : k = l := by
  refine List.ext_getElem (by omega) fun n h1 h2 => ?_
  have := h n (by omega)
  simpa [List.getD_eq_getElem?_getD, h1, h2] using this

theorem cm_256 {k l : List UInt8} (hk : k.length = 32) (hl : l.length = 32) (h : cm k l = 256) : k = l := by
  have h2 := (cm_is k l).2.1
  rw [h] at h2
  refine ext_bytes hk hl fun n hn => ?_
  refine UInt8.toNat_inj.1 (byte_of_bits _ _ (UInt8.toNat_lt _) (UInt8.toNat_lt _) fun p hp => ?_)
  have := h2 (8 * n + p) (by omega)
  rwa [bitN_byte k n p hp, bitN_byte l n p hp] at this
theorem cm_lt {k l : List UInt8} (hk : k.length = 32) (hl : l.length = 32) (h : k ≠ l) : cm k l < 256 := by
  have := cm_le k l
  rcases Nat.lt_or_ge (cm k l) 256 with h' | h'
  · exact h'
  · exact absurd (cm_256 hk hl (by omega)) h

/-- k stands ahead of l. -/
def ltB (k l : List UInt8) : Bool := decide (cm k l < 256) && decide (bitN k (cm k l) = 0)

/-- The first byte that differs, and the first bit in it. -/
theorem isCm_of_byte {k l : List UInt8} (n p : Nat) (hn : n < 32) (hp : p < 8) (heq : ∀ j, j < n → k.getD j 0 = l.getD j 0)
    (hb : ∀ q, q < p → (k.getD n 0).toNat / 2 ^ (7 - q) % 2 = (l.getD n 0).toNat / 2 ^ (7 - q) % 2)
    (hd : (k.getD n 0).toNat / 2 ^ (7 - p) % 2 ≠ (l.getD n 0).toNat / 2 ^ (7 - p) % 2) : IsCm k l (8 * n + p) := by
  refine ⟨by omega, fun j hj => ?_, fun _ => by rwa [bitN_byte k n p hp, bitN_byte l n p hp]⟩
  rw [show j = 8 * (j / 8) + j % 8 by omega, bitN_byte k _ _ (Nat.mod_lt _ (by decide)), bitN_byte l _ _ (Nat.mod_lt _ (by decide))]
  rcases Nat.lt_or_ge (j / 8) n with h | h
  · rw [heq _ h]
  · have e : j / 8 = n := by omega
    rw [e]
    exact hb _ (by omega)

/-- Bytes that differ: the first bit that differs. -/
theorem first_bit (a b : Nat) (ha : a < 256) (hb : b < 256) (h : a ≠ b) : ∃ p, p < 8 ∧ (∀ q, q < p → a / 2 ^ (7 - q) % 2 = b / 2 ^ (7 - q) % 2) ∧ a / 2 ^ (7 - p) % 2 ≠ b / 2 ^ (7 - p) % 2 := by
  cases hf : (List.range 8).find? fun p => a / 2 ^ (7 - p) % 2 != b / 2 ^ (7 - p) % 2 with
  | none =>
    rw [List.find?_eq_none] at hf
    exact absurd (byte_of_bits a b ha hb fun p hp => by simpa using hf p (List.mem_range.2 hp)) h
  | some i =>
    rw [List.find?_range_eq_some] at hf
    obtain ⟨hp, hm, hb'⟩ := hf
    exact ⟨i, by simpa using hm, fun q hq => by simpa using hb' q hq, by simpa using hp⟩

theorem bits8 (a : Nat) (h : a < 256) : a = 128 * (a / 2 ^ (7 - 0) % 2) + 64 * (a / 2 ^ (7 - 1) % 2) + 32 * (a / 2 ^ (7 - 2) % 2) + 16 * (a / 2 ^ (7 - 3) % 2) + 8 * (a / 2 ^ (7 - 4) % 2) + 4 * (a / 2 ^ (7 - 5) % 2) + 2 * (a / 2 ^ (7 - 6) % 2) + a / 2 ^ (7 - 7) % 2 := by
  simp only [Nat.sub_zero, Nat.reducePow, Nat.reduceSub]
  omega
theorem lt_of_bits (f g : Nat → Nat) (a b p : Nat) (hf : ∀ q, f q < 2) (hg : ∀ q, g q < 2)
    (ha : a = 128 * f 0 + 64 * f 1 + 32 * f 2 + 16 * f 3 + 8 * f 4 + 4 * f 5 + 2 * f 6 + f 7)
    (hb : b = 128 * g 0 + 64 * g 1 + 32 * g 2 + 16 * g 3 + 8 * g 4 + 4 * g 5 + 2 * g 6 + g 7)
    (hp : p < 8) (hq : ∀ q, q < p → f q = g q) (hd : f p ≠ g p) : (a < b ↔ f p = 0) := by
  have f0 := hf 0; have f1 := hf 1; have f2 := hf 2; have f3 := hf 3; have f4 := hf 4; have f5 := hf 5; have f6 := hf 6; have f7 := hf 7
  have g0 := hg 0; have g1 := hg 1; have g2 := hg 2; have g3 := hg 3; have g4 := hg 4; have g5 := hg 5; have g6 := hg 6; have g7 := hg 7
  subst ha hb
  match p, hp with
  | 0, _ => omega
  | 1, _ => rw [hq 0 (by decide)] at *; omega
  | 2, _ => rw [hq 0 (by decide), hq 1 (by decide)] at *; omega
  | 3, _ => rw [hq 0 (by decide), hq 1 (by decide), hq 2 (by decide)] at *; omega
  | 4, _ => rw [hq 0 (by decide), hq 1 (by decide), hq 2 (by decide), hq 3 (by decide)] at *; omega
  | 5, _ => rw [hq 0 (by decide), hq 1 (by decide), hq 2 (by decide), hq 3 (by decide), hq 4 (by decide)] at *; omega
  | 6, _ => rw [hq 0 (by decide), hq 1 (by decide), hq 2 (by decide), hq 3 (by decide), hq 4 (by decide), hq 5 (by decide)] at *; omega
  | 7, _ => rw [hq 0 (by decide), hq 1 (by decide), hq 2 (by decide), hq 3 (by decide), hq 4 (by decide), hq 5 (by decide), hq 6 (by decide)] at *; omega
theorem lt_of_first (a b p : Nat) (ha : a < 256) (hb : b < 256) (hp : p < 8) (hq : ∀ q, q < p → a / 2 ^ (7 - q) % 2 = b / 2 ^ (7 - q) % 2) (hd : a / 2 ^ (7 - p) % 2 ≠ b / 2 ^ (7 - p) % 2) :
    (a < b ↔ a / 2 ^ (7 - p) % 2 = 0) :=
  lt_of_bits (fun q => a / 2 ^ (7 - q) % 2) (fun q => b / 2 ^ (7 - q) % 2) a b p (fun _ => Nat.mod_lt _ (by decide)) (fun _ => Nat.mod_lt _ (by decide)) (bits8 a ha) (bits8 b hb) hp hq hd

/-- By the first byte that differs. -/
theorem ltB_of_byte {k l : List UInt8} (n : Nat) (hn : n < 32) (heq : ∀ j, j < n → k.getD j 0 = l.getD j 0) (hd : k.getD n 0 ≠ l.getD n 0) :
    ltB k l = decide ((k.getD n 0).toNat < (l.getD n 0).toNat) := by
  obtain ⟨p, hp, hb, hne⟩ := first_bit _ _ (UInt8.toNat_lt _) (UInt8.toNat_lt _) (fun e => hd (UInt8.toNat_inj.1 e))
  have hc := isCm_of_byte n p hn hp heq hb hne
  have he := hc.eq
  have hl := lt_of_first _ _ p (UInt8.toNat_lt _) (UInt8.toNat_lt _) hp hb hne
  unfold ltB
  rw [← he, bitN_byte k n p hp]
  have h256 : 8 * n + p < 256 := by omega
  simp only [h256, decide_true, Bool.true_and]
  exact decide_eq_decide.2 hl.symm

theorem ltB_self (k : List UInt8) : ltB k k = false := by simp [ltB, cm_self]
theorem ltB_asymm {k l : List UInt8} (h : ltB k l = true) : ltB l k = false := by
  unfold ltB at *
  rw [cm_symm l k]
  simp only [Bool.and_eq_true, decide_eq_true_eq] at h
  have := (cm_is k l).2.2 h.1
  have h2 := bitN_lt l (cm k l)
  simp only [Bool.and_eq_false_iff, decide_eq_false_iff_not]
  exact .inr (by omega)
theorem ltB_total {k l : List UInt8} (hk : k.length = 32) (hl : l.length = 32) (h : k ≠ l) : ltB k l = true ∨ ltB l k = true := by
  have hc := cm_lt hk hl h
  unfold ltB
  rw [cm_symm l k]
  have := (cm_is k l).2.2 hc
  have h1 := bitN_lt k (cm k l)
  have h2 := bitN_lt l (cm k l)
  simp only [Bool.and_eq_true, decide_eq_true_eq]
  omega
/-- It stands in an order. -/
theorem ltB_trans {a b c : List UInt8} (h : ltB a b = true) (h' : ltB b c = true) : ltB a c = true := by
  unfold ltB at *
  simp only [Bool.and_eq_true, decide_eq_true_eq] at *
  obtain ⟨h1, h2⟩ := h
  obtain ⟨h3, h4⟩ := h'
  obtain ⟨_, p2, p3⟩ := cm_is a b
  obtain ⟨_, q2, q3⟩ := cm_is b c
  have p3' := p3 h1
  have q3' := q3 h3
  rcases Nat.lt_trichotomy (cm a b) (cm b c) with hlt | he | hlt
  · have : IsCm a c (cm a b) := ⟨by omega, fun j hj => (p2 j hj).trans (q2 j (by omega)), fun _ e => p3' (e.trans (q2 _ hlt).symm)⟩
    rw [← this.eq]; exact ⟨h1, h2⟩
  · rw [he] at p3' h2; omega
  · have : IsCm a c (cm b c) := ⟨by omega, fun j hj => (p2 j (by omega)).trans (q2 j hj), fun _ e => q3' ((p2 _ hlt).symm.trans e)⟩
    rw [← this.eq]; exact ⟨h3, (p2 _ hlt).trans h4⟩
end Go.Cu
/- bytes.Compare's entry over two arrays of bytes that are known whole; the order of keys by it. -/
namespace Go.Cu
open Go Go.RowKit

theorem compare_first : ∀ (k l : List UInt8), k.length = l.length →
    (k = l ∧ Lib.compareBytes k l = 0) ∨ ∃ n, n < k.length ∧ (∀ j, j < n → k.getD j 0 = l.getD j 0) ∧ k.getD n 0 ≠ l.getD n 0 ∧ Lib.compareBytes k l = if (k.getD n 0).toNat < (l.getD n 0).toNat then -1 else 1
  | [], [], _ => .inl ⟨rfl, rfl⟩
  | [], _ :: _, h => by simp at h
  | _ :: _, [], h => by simp at h
  | a :: k, b :: l, h => by
    by_cases hab : a = b
    · subst hab
      rcases compare_first k l (by simpa using h) with ⟨h1, h2⟩ | ⟨n, hn, h1, h2, h3⟩
      · exact .inl ⟨by rw [h1], by simp [Lib.compareBytes, h2]⟩
      · refine .inr ⟨n + 1, by simpa using hn, fun j hj => ?_, by simpa using h2, by simpa [Lib.compareBytes] using h3⟩
        match j with
        | 0 => rfl
        | j + 1 => simpa using h1 j (by omega)
    · refine .inr ⟨0, by simp, fun j hj => absurd hj (by omega), by simpa using hab, ?_⟩
      have hne : a.toNat ≠ b.toNat := fun e => hab (UInt8.toNat_inj.1 e)
      simp only [Lib.compareBytes, UInt8.lt_iff_toNat_lt, List.getD_cons_zero]
      by_cases h1 : a.toNat < b.toNat
      · simp [h1]
      · have h2 : b.toNat < a.toNat := by omega
        simp [h1, h2]

/-- The order of keys: -1, 0, 1. -/
def ordB (k l : List UInt8) : Int := if k = l then 0 else if ltB k l then -1 else 1
theorem ordB_compare {k l : List UInt8} (hk : k.length = 32) (hl : l.length = 32) : Lib.compareBytes k l = ordB k l := by
  unfold ordB
  rcases compare_first k l (by omega) with ⟨h1, h2⟩ | ⟨n, hn, h1, h2, h3⟩
  · rw [if_pos h1, h2]
  · have hne : k ≠ l := fun e => h2 (by rw [e])
    rw [if_neg hne, h3, ltB_of_byte n (by omega) h1 h2]
    simp
theorem ordB_neg (k l : List UInt8) : decide (ordB k l < 0) = ltB k l := by
  unfold ordB
  by_cases h : k = l
  · subst h; simp [ltB_self]
  · rw [if_neg h]
    cases ltB k l <;> simp

theorem bytesOf_bv (l : List UInt8) : Lib.bytesOf (l.map fun b => (b.toNat : Int)) = l := by
  unfold Lib.bytesOf
  rw [List.map_map]
  conv => rhs; rw [← List.map_id l]
  refine List.map_congr_left fun b _ => ?_
  simp

theorem run_loadBytes_bv {P : Program} (w : World) (g : Nat) (t : TypeId) (fr : Nat × Nat) (l : List UInt8) (hg : w.heap[g]? = some (.cells (bv l) t fr)) :
    (Extern.Bytes.loadBytes ⟨g, 0, none⟩ l.length .empty).run P w = .ok ⟨l.toArray⟩ w := by
  have h := Lib.run_loadBytesX (P := P) w (l.map fun b => (b.toNat : Int)) ⟨g, 0, none⟩ .empty (fun j x hj => by
    have hadd : (⟨g, 0, none⟩ : Addr).add j = ⟨g, j, none⟩ := by unfold Addr.add; split <;> simp_all
    rw [hadd, cell_of_row w g j (bv l) t fr hg]
    simp only [bv, List.getElem?_toArray, List.getElem?_map] at hj ⊢
    cases hl : l[j]? with
    | none => simp [hl] at hj
    | some u => simp [hl] at hj ⊢; exact hj)
  rw [bytesOf_bv, List.length_map] at h
  rw [h]
  congr 1
  apply ByteArray.ext
  show (#[] : Array UInt8) ++ l.toArray = l.toArray
  simp

theorem run_compare_bv {P : Program} (w : World) (g g' : Nat) (t t' : TypeId) (fr fr' : Nat × Nat) (k l : List UInt8) (c c' : Nat) (hg : w.heap[g]? = some (.cells (bv k) t fr)) (hg' : w.heap[g']? = some (.cells (bv l) t' fr')) :
    (Extern.BytealgCompare.compare #[.slice (some ⟨g, 0, none⟩) k.length c, .slice (some ⟨g', 0, none⟩) l.length c']).run P w = .ok (.int .i64 (Lib.compareBytes k l)) w := by
  change Sem.run P (do pure (goInt (Extern.BytealgCompare.cmp (← Extern.Bytes.bytesOf (.slice (some ⟨g, 0, none⟩) k.length c)) (← Extern.Bytes.bytesOf (.slice (some ⟨g', 0, none⟩) l.length c'))))) w = _
  simp only [Extern.Bytes.bytesOf, Sem.run_bind, run_loadBytes_bv w g t fr k hg, run_loadBytes_bv w g' t' fr' l hg', Result.andThen_ok, Sem.run_pure, Lib.cmp_eq, goInt]
theorem xor_bit (a b j : Nat) : ((a ^^^ b) / 2 ^ j % 2 = 0 ↔ a / 2 ^ j % 2 = b / 2 ^ j % 2) := by
  have h := Nat.testBit_xor a b j
  rw [Nat.testBit_eq_decide_div_mod_eq, Nat.testBit_eq_decide_div_mod_eq, Nat.testBit_eq_decide_div_mod_eq] at h
  have ha : a / 2 ^ j % 2 < 2 := Nat.mod_lt _ (by decide)
  have hb : b / 2 ^ j % 2 < 2 := Nat.mod_lt _ (by decide)
  have hx : (a ^^^ b) / 2 ^ j % 2 < 2 := Nat.mod_lt _ (by decide)
  generalize (a ^^^ b) / 2 ^ j % 2 = x at *
  generalize a / 2 ^ j % 2 = u at *
  generalize b / 2 ^ j % 2 = v at *
  match x, u, v, hx, ha, hb with
  | 0, 0, 0, _, _, _ => simp
  | 0, 0, 1, _, _, _ => simp at h
  | 0, 1, 0, _, _, _ => simp at h
  | 0, 1, 1, _, _, _ => simp
  | 1, 0, 0, _, _, _ => simp at h
  | 1, 0, 1, _, _, _ => simp
  | 1, 1, 0, _, _, _ => simp
  | 1, 1, 1, _, _, _ => simp at h

theorem len_bits : ∀ x : Fin 256, x.val ≠ 0 → 1 ≤ Lib.bitLen x.val ∧ Lib.bitLen x.val ≤ 8 ∧ (∀ q : Fin 8, q.val < 8 - Lib.bitLen x.val → x.val / 2 ^ (7 - q.val) % 2 = 0) ∧ x.val / 2 ^ (7 - (8 - Lib.bitLen x.val)) % 2 ≠ 0 := by decide +kernel

theorem bt_nat (l : List UInt8) (i : Nat) : (bt l i).toNat = (l.getD i 0).toNat := by simp [bt]
theorem cm_exit {k l : List UInt8} {n : Nat} (hn : n < 32) (heq : ∀ j, j < n → k.getD j 0 = l.getD j 0) (hne : bt k n ≠ bt l n) :
    0 ≤ bits .xor .u8 (bt k n) (bt l n) ∧ bits .xor .u8 (bt k n) (bt l n) ≤ 255 ∧ 8 * (n : Int) + (8 - (Lib.bitLen (bits .xor .u8 (bt k n) (bt l n)).toNat : Int)) = (cm k l : Int) := by
  rw [u8_xor _ _ (bt_ge k n) (bt_lt k n) (bt_ge l n) (bt_lt l n), bt_nat, bt_nat, Int.toNat_natCast]
  have ha := UInt8.toNat_lt (k.getD n 0)
  have hb := UInt8.toNat_lt (l.getD n 0)
  have hd : (k.getD n 0).toNat ≠ (l.getD n 0).toNat := fun e => hne (by unfold bt; rw [e])
  have hx : (k.getD n 0).toNat ^^^ (l.getD n 0).toNat < 256 := Nat.xor_lt_two_pow (n := 8) ha hb
  have h0 : (k.getD n 0).toNat ^^^ (l.getD n 0).toNat ≠ 0 := fun e => hd (Nat.eq_of_testBit_eq fun i => by
    have := Nat.testBit_xor (k.getD n 0).toNat (l.getD n 0).toNat i
    rw [e, Nat.zero_testBit] at this
    revert this
    cases (k.getD n 0).toNat.testBit i <;> cases (l.getD n 0).toNat.testBit i <;> simp)
  obtain ⟨h1, h8, hq, hp⟩ := len_bits ⟨_, hx⟩ h0
  simp only at h1 h8 hq hp
  refine ⟨by omega, by omega, ?_⟩
  have hc : IsCm k l (8 * n + (8 - Lib.bitLen ((k.getD n 0).toNat ^^^ (l.getD n 0).toNat))) :=
    isCm_of_byte n _ hn (by omega) heq (fun q hql => (xor_bit _ _ _).1 (hq ⟨q, by omega⟩ hql)) (fun e => hp ((xor_bit _ _ _).2 e))
  rw [← hc.eq]
  omega
theorem cm_all {k l : List UInt8} (heq : ∀ j, j < 32 → k.getD j 0 = l.getD j 0) : cm k l = 256 :=
  ((show IsCm k l 256 from ⟨Nat.le_refl _, fun j hj => by unfold bitN; rw [heq _ (by omega)], fun h => absurd h (by decide)⟩).eq).symm
theorem bt_inj {k l : List UInt8} {n : Nat} (h : bt k n = bt l n) : k.getD n 0 = l.getD n 0 := by
  unfold bt at h
  exact UInt8.toNat_inj.1 (by omega)

theorem run_eqItems_bv {P : Program} {e : TypeId} (he : ByteElem P e) (hc : P.cellsOf e = 1) (d : Nat) (k l : List UInt8) (w : World) :
    ∀ is : List Nat, (∀ i ∈ is, i < k.length ∧ i < l.length) → (Op.eqItems (d + 1) e (P.cellsOf e) (bv k) (bv l) is).run P w = .ok (is.all fun i => bt k i == bt l i) w
  | [], _ => by simp [Op.eqItems]
  | i :: is, h => by
    have hi := h i (by simp)
    have ih := run_eqItems_bv he hc d k l w is (fun j hj => h j (by simp [hj]))
    simp only [Op.eqItems, Sem.run_bind, hc, Nat.mul_one, run_part_bv he k i hi.1, run_part_bv he l i hi.2, Result.andThen_ok, run_equalIn_int w d e _ _ _ _ he.und]
    rw [hc] at ih
    cases hb : bt k i == bt l i
    · simp [hb]
    · simp [hb, ih]

/-- Two arrays of bytes compared. -/
theorem run_eql_bv {P : Program} {t e : TypeId} {n : Nat} (ht : P.underlying t = some (.array n e)) (he : ByteElem P e) (hc : P.cellsOf e = 1) (k l : List UInt8) (hk : k.length = n) (hl : l.length = n) (w : World) :
    (binOp .eql t (.agg (bv k)) (.agg (bv l))).run P w = .ok (.bool (decide (k = l))) w := by
  cases hq : P.info? e with
  | none => have := he.size; simp [hq] at this
  | some i =>
    have h := run_eqItems_bv he hc 9998 k l w (List.range n) (fun i hi => by simp only [List.mem_range] at hi; omega)
    rw [run_eql_struct, run_equalIn_array w 9999 (bv k) (bv l) ht hq, h]
    simp only [Result.andThen_ok]
    congr 2
    rw [Bool.eq_iff_iff]
    simp only [List.all_eq_true, List.mem_range, beq_iff_eq, decide_eq_true_eq]
    constructor
    · intro h
      refine List.ext_getElem (by omega) fun j h1 h2 => ?_
      have := bt_inj (h j (by omega))
      simpa [List.getD_eq_getElem?_getD, h1, h2] using this
    · rintro rfl j _
      rfl
theorem run_neq_bv {P : Program} {t e : TypeId} {n : Nat} (ht : P.underlying t = some (.array n e)) (he : ByteElem P e) (hc : P.cellsOf e = 1) (k l : List UInt8) (hk : k.length = n) (hl : l.length = n) (w : World) :
    (binOp .neq t (.agg (bv k)) (.agg (bv l))).run P w = .ok (.bool (!decide (k = l))) w := by
  have h := run_eql_bv ht he hc k l hk hl w
  rw [run_eql_struct] at h
  rw [run_neq_struct]
  generalize (Op.equalIn 10000 t (.agg (bv k)) (.agg (bv l))).run P w = r at *
  cases r with
  | ok b w' =>
    simp only [Result.andThen_ok, Result.ok.injEq, Value.bool.injEq] at h ⊢
    exact ⟨by rw [h.1], h.2⟩
  | halt x w' => simp [Result.andThen] at h

section
variable {P : Program} {ops : Array Oper} {o : Oper} {a : Act} {t e : TypeId} {n : Nat}
theorem exec_eql_bv (hm : P.eqGuardType P.depth t = false) (t' : TypeId) (x y : Operand) (ho : o.op = .binOp .eql t x y t') (k l : List UInt8) (hx : a.eval x = .agg (bv k)) (hy : a.eval y = .agg (bv l)) (ht : P.underlying t = some (.array n e)) (he : ByteElem P e) (hc : P.cellsOf e = 1) (hk : k.length = n) (hl : l.length = n) (w : World) :
    (execOp a.eval o).run P w = .ok (.value (.bool (decide (k = l)))) w := by
  unfold execOp
  simp only [ho, hx, hy, Sem.run_bind, run_eqGuard_agg w _ _ _ _ _ _ hm, Result.andThen_ok, run_eql_bv ht he hc k l hk hl, Sem.run_pure]
theorem exec_neq_bv (hm : P.eqGuardType P.depth t = false) (t' : TypeId) (x y : Operand) (ho : o.op = .binOp .neq t x y t') (k l : List UInt8) (hx : a.eval x = .agg (bv k)) (hy : a.eval y = .agg (bv l)) (ht : P.underlying t = some (.array n e)) (he : ByteElem P e) (hc : P.cellsOf e = 1) (hk : k.length = n) (hl : l.length = n) (w : World) :
    (execOp a.eval o).run P w = .ok (.value (.bool (!decide (k = l)))) w := by
  unfold execOp
  simp only [ho, hx, hy, Sem.run_bind, run_eqGuard_agg w _ _ _ _ _ _ hm, Result.andThen_ok, run_neq_bv ht he hc k l hk hl, Sem.run_pure]
theorem wpList_eql_bv {rest : List Oper} {w : World} {Q : Exit → Act → World → Prop} (t' : TypeId) (x y : Operand) (ho : o.op = .binOp .eql t x y t') (k l : List UInt8) (hx : a.eval x = .agg (bv k)) (hy : a.eval y = .agg (bv l)) (hw : Region.wanted o (yielded ops a.tmps) = true)
    (hm : P.eqGuardType P.depth t = false) (ht : P.underlying t = some (.array n e)) (he : ByteElem P e) (hc : P.cellsOf e = 1) (hk : k.length = n) (hl : l.length = n) (h : wpList P ops Q rest (a.put o.dst (.bool (decide (k = l)))) w) : wpList P ops Q (o :: rest) a w :=
  wpList_val hw _ (exec_eql_bv hm t' x y ho k l hx hy ht he hc hk hl w) h
theorem wpList_neq_bv {rest : List Oper} {w : World} {Q : Exit → Act → World → Prop} (t' : TypeId) (x y : Operand) (ho : o.op = .binOp .neq t x y t') (k l : List UInt8) (hx : a.eval x = .agg (bv k)) (hy : a.eval y = .agg (bv l)) (hw : Region.wanted o (yielded ops a.tmps) = true)
    (hm : P.eqGuardType P.depth t = false) (ht : P.underlying t = some (.array n e)) (he : ByteElem P e) (hc : P.cellsOf e = 1) (hk : k.length = n) (hl : l.length = n) (h : wpList P ops Q rest (a.put o.dst (.bool (!decide (k = l)))) w) : wpList P ops Q (o :: rest) a w :=
  wpList_val hw _ (exec_neq_bv hm t' x y ho k l hx hy ht he hc hk hl w) h
theorem wpQuiet_eql_bv {rest : List Oper} {C : World → Prop} {Q : Act → Prop} (t' : TypeId) (x y : Operand) (ho : o.op = .binOp .eql t x y t') (k l : List UInt8) (hx : a.eval x = .agg (bv k)) (hy : a.eval y = .agg (bv l)) (hw : Region.wanted o (yielded ops a.tmps) = true)
    (hm : P.eqGuardType P.depth t = false) (ht : P.underlying t = some (.array n e)) (he : ByteElem P e) (hc : P.cellsOf e = 1) (hk : k.length = n) (hl : l.length = n)
    (h : ∀ K : Act → Prop, (∀ a, wpQuiet P ops C Q rest a → K a) → K (a.put o.dst (.bool (decide (k = l))))) : wpQuiet P ops C Q (o :: rest) a :=
  wpQuiet_op hw _ (fun W _ => by
    unfold Oper.quietAt
    rw [exec_eql_bv hm t' x y ho k l hx hy ht he hc hk hl W]
    exact ⟨rfl, rfl⟩) (h _ fun _ hh => hh)
end

theorem run_cmpK_eql {P : Program} {t e : TypeId} {n : Nat} (hm : P.eqGuardType P.depth t = false) (ht : P.underlying t = some (.array n e)) (he : ByteElem P e) (hc : P.cellsOf e = 1) {k l : List UInt8} (hk : k.length = n) (hl : l.length = n) (x y : Operand) (w : World) :
    (cmpK .eql t x y (.agg (bv k)) (.agg (bv l))).run P w = .ok (.value (.bool (decide (k = l)))) w := by
  simp only [cmpK, Sem.run_bind, run_eqGuard_agg w _ _ _ _ _ _ hm, Result.andThen_ok, run_eql_bv ht he hc k l hk hl, Sem.run_pure]
theorem run_cmpK_neq {P : Program} {t e : TypeId} {n : Nat} (hm : P.eqGuardType P.depth t = false) (ht : P.underlying t = some (.array n e)) (he : ByteElem P e) (hc : P.cellsOf e = 1) {k l : List UInt8} (hk : k.length = n) (hl : l.length = n) (x y : Operand) (w : World) :
    (cmpK .neq t x y (.agg (bv k)) (.agg (bv l))).run P w = .ok (.value (.bool (!decide (k = l)))) w := by
  simp only [cmpK, Sem.run_bind, run_eqGuard_agg w _ _ _ _ _ _ hm, Result.andThen_ok, run_neq_bv ht he hc k l hk hl, Sem.run_pure]
end Go.Cu
namespace Go.Proofs.YthmchbdhikakhaaDoor
open Go.RowKit Go.Cu
theorem be5 : ByteElem Tryd.prog 5 := ⟨by kernel_rfl, Tryd.underlying5⟩
theorem cells5 : Tryd.prog.cellsOf 5 = 1 := by kernel_rfl
theorem size33 : (Tryd.prog.info? 64).map (·.size) = some 128 := by kernel_rfl
theorem guard33 : Tryd.prog.eqGuardType Tryd.prog.depth 64 = false := by kernel_rfl
set_option maxRecDepth 20000 in
theorem zero33 (W : World) : (zeroValue 64).run Tryd.prog W = .ok (.agg (bv zeroB)) W := by kernel_rfl
set_option maxRecDepth 20000 in
theorem build33 (W : World) : (Instr.build 64 #[]).run Tryd.prog W = .ok (.agg (bv zeroB)) W := by kernel_rfl
@[go_sem ↓] theorem ldk33 (a : Act) (dst : Option Tmp) (x : Operand) (ty : TypeId) (pos : String) (after : Array Edge) (guard : Option (Nat × Bool)) :
      execOp a.eval { dst, op := .load 64 x, type := ty, pos, after, guard } = loadK 64 (a.eval x) := rfl
@[go_sem ↓] theorem eqk33 (a : Act) (dst : Option Tmp) (x y : Operand) (t' ty : TypeId) (pos : String) (after : Array Edge) (guard : Option (Nat × Bool)) :
      execOp a.eval { dst, op := .binOp .eql 64 x y t', type := ty, pos, after, guard } = cmpK .eql 64 x y (a.eval x) (a.eval y) := rfl
@[go_sem ↓] theorem nek33 (a : Act) (dst : Option Tmp) (x y : Operand) (t' ty : TypeId) (pos : String) (after : Array Edge) (guard : Option (Nat × Bool)) :
      execOp a.eval { dst, op := .binOp .neq 64 x y t', type := ty, pos, after, guard } = cmpK .neq 64 x y (a.eval x) (a.eval y) := rfl
theorem bvz : (bv zeroB).size = 128 := (bv_size _).trans zeroB_len

theorem results_cell_tmp {fn : Func} {p t : Tmp} {ty e : TypeId} {n : Nat} (h : fn.results = #[.cell p ty, .tmp t]) (tmps : Array Value) (P : Program) (w : World) (g : Nat) (t' : TypeId) (cs : Array Value) (fr : Nat × Nat)
    (hp : tmps.getD p undef = .pointer (some ⟨g, 0, none⟩)) (hg : w.heap[g]? = some (.cells cs t' fr))
    (hu : P.underlying ty = some (.array n e)) (hi : (P.info? ty).map (·.size) = some cs.size) :
    (results fn tmps).run P w = .ok (.tuple #[.agg cs, tmps.getD t undef]) w := by
  have hp' : tmps[p]?.getD undef = .pointer (some ⟨g, 0, none⟩) := by simpa using hp
  have hl := run_loadVar_row (P := P) w g t' ty cs fr _ hg hu rfl hi
  simp [results, h, hp', asAddr, hl]

set_option maxRecDepth 20000 in
set_option maxHeartbeats 400000 in
/-- Read where nothing is answered. -/
theorem read_bad {v : Value} {e : Int} {w : World} {i : Int} (he : e ≠ 0) (ha : Hid (∀ w', Below w.heap.size w w' → Calls Tryd.prog 30 #[v, .int .i64 i] w' fun x w'' => x = .returned (.int .i64 e) ∧ w' = w'')) :
    Calls Tryd.prog 22 #[v, .int .i64 i] w fun x w' => x = .returned (.tuple #[.agg (bv zeroB), .int .i64 e]) ∧ Below w.heap.size w w' := by
  have hne : (e != 0) = true := by simpa using he
  clear he
  go_enter Tryd.func22, Tryd.ntmps22
  go_wp2_with (first | (refine wpList_alloc 64 rfl rfl (.agg (bv zeroB)) zero33 ?_; intro gr W0 hR hr hgr hW) | (go_at_call 30; refine (ha.out _ hW).mono ?_; rintro x w' ⟨rfl, rfl⟩) | (refine wpList_buildv 64 _ rfl rfl #[] ?_ (.agg (bv zeroB)) build33 ?_; (· simp [Act.eval])) | (refine wpList_store_box 64 _ _ rfl gr rfl rfl (bv zeroB) rfl 128 size33 bvz (bv_one _) 64 _ hR bvz ?_; intro X2 hR2 hT2 hs2))
  refine bodyPost_ret (results_cell_tmp rfl _ _ _ gr 64 (bv zeroB) (0, 0) rfl hR2 Tryd.underlying64 (by rw [bvz]; exact size33)) rfl ⟨rfl, ?_⟩
  exact hW.trans (hT2.below hW.size (fun i hi => by subst hi; exact hgr))

set_option maxRecDepth 20000 in
set_option maxHeartbeats 400000 in
theorem read_ok {p : Nat} {F : Nat → Prop} {S : DS} {w : World} {N : Nat} (h : DiskIn w p F S) (hok : S.Ok N) {n : Nat} (hz : S.at_ (n : Int) = 0) :
    Calls Tryd.prog 22 #[.pointer (some ⟨p, 0, none⟩), .int .i64 n] w fun x w' => x = .returned (.tuple #[.agg (bv (S.now.getD n zeroB)), .int .i64 0]) ∧ Below w.heap.size w w' := by
  have ha := hid fun w' (hb : Below w.heap.size w w') => at_any (w := w') (h.below hb) hok n
  rw [hz] at ha
  obtain ⟨_, _, hlt⟩ := DS.at_zero hz
  have hbig := hok.big
  have HG := hid (show S.now[n]? = some (S.now.getD n zeroB) by rw [List.getD_eq_getElem?_getD, List.getElem?_eq_getElem (by omega)]; rfl)
  have hlen := hid (full_getD hok.now n)
  have HSZ := hid ((bv_size _).trans hlen.out)
  have HL := hid (fun (X : World) (hb : Below w.heap.size w X) => ((h.below hb).cells))
  obtain ⟨pn, pl, wv, h0, _, _, _, _, hat⟩ := h.cells
  have HF := hid (show Full S.now from hok.now)
  have hp := lt_of_heap hat.box
  have hpn := lt_of_heap hat.now
  have LN : ∀ X, Below w.heap.size w X → (loadK 64 (.pointer (some ⟨pn, n * 128, none⟩))).run Tryd.prog X = .ok (.value (.agg (bv (S.now.getD n zeroB)))) X := fun X hb =>
    run_loadK ((hb.block pn hpn).trans hat.now) Tryd.underlying64 rfl size33 HSZ.out (flat_get HF.out HG.out)
  have L0 : ∀ X, Below w.heap.size w X → X.cell? ⟨p, 0, none⟩ = some (.slice (some ⟨pn, 0, none⟩) S.now.length S.now.length) := fun X hb => (hb.cell (p := ⟨p, 0, none⟩) hp).trans h0
  clear h hok hz h0 hat
  go_enter Tryd.func22, Tryd.ntmps22
  go_wp2_with (first | (refine wpList_alloc 64 rfl rfl (.agg (bv zeroB)) zero33 ?_; intro gr W0 hR hr hgr hW) | (go_at_call 30; refine (ha.out _ hW).mono ?_; rintro x w' ⟨rfl, rfl⟩) | (refine wpList_store_box 64 _ _ rfl gr rfl rfl (bv (S.now.getD n zeroB)) rfl 128 size33 HSZ.out (bv_one _) 64 _ hR bvz ?_; intro X2 hR2 hT2 hs2))
  refine bodyPost_ret (results_cell_tmp rfl _ _ _ gr 64 (bv _) (0, 0) rfl hR2 Tryd.underlying64 (by rw [HSZ.out]; exact size33)) rfl ⟨rfl, ?_⟩
  exact hW.trans (hT2.below hW.size (fun i hi => by subst hi; exact hgr))
end Go.Proofs.YthmchbdhikakhaaDoor
