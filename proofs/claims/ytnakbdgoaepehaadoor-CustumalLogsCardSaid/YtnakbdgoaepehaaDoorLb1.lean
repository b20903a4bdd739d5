/- Part 1 of the texts below this law, put together: what each holds is said at its head. -/
import Derived.WalkKit
import Derived.WalkSpells
import Derived.WalkLawsBesides
import Derived.BigQuiet
import Derived.Deep.QuietTactic
import Derived.Lib.BytesEntry
import Derived.Lib.Bytealg
import Derived.Lib.BitFns
import Derived.ChangeKeysEq
import Derived.Maps.AppendAt
import Derived.ProofKit
import Derived.OpenShut
import Derived.Deep.Slices
/- Keys of 256 bits, plainly: bits, the count of bits that two keys begin with alike, the order. No program. -/
namespace Go.Cu

/-- The i-th bit, from the highest of the first byte on. -/
def bitN (l : List UInt8) (i : Nat) : Nat := (l.getD (i / 8) 0).toNat / 2 ^ (7 - i % 8) % 2
theorem bitN_lt (l : List UInt8) (i : Nat) : bitN l i < 2 := Nat.mod_lt _ (by decide)

/-- c is how many bits two keys begin with alike. -/
def IsCm (k l : List UInt8) (c : Nat) : Prop := c ≤ 256 ∧ (∀ j, j < c → bitN k j = bitN l j) ∧ (c < 256 → bitN k c ≠ bitN l c)
def cm (k l : List UInt8) : Nat := ((List.range 256).find? fun i => bitN k i != bitN l i).getD 256

theorem cm_is (k l : List UInt8) : IsCm k l (cm k l) := by
  unfold cm
  cases h : (List.range 256).find? fun i => bitN k i != bitN l i with
  | none =>
    rw [List.find?_eq_none] at h
    refine ⟨Nat.le_refl _, fun j hj => ?_, fun hc => absurd hc (by simp)⟩
    have := h j (List.mem_range.2 (by simpa using hj))
    simpa using this
  | some i =>
    rw [List.find?_range_eq_some] at h
    obtain ⟨hp, hm, hb⟩ := h
    have hi : i < 256 := by simpa using hm
    refine ⟨Nat.le_of_lt hi, fun j hj => ?_, fun _ => by simpa using hp⟩
    have := hb j (by simpa using hj)
    simpa using this

theorem IsCm.unique {k l : List UInt8} {c d : Nat} (h : IsCm k l c) (h' : IsCm k l d) : c = d := by
  rcases Nat.lt_trichotomy c d with hlt | he | hlt
  · exact absurd (h'.2.1 c hlt) (h.2.2 (Nat.lt_of_lt_of_le hlt h'.1))
  · exact he
  · exact absurd (h.2.1 d hlt) (h'.2.2 (Nat.lt_of_lt_of_le hlt h.1))
theorem IsCm.eq {k l : List UInt8} {c : Nat} (h : IsCm k l c) : c = cm k l := h.unique (cm_is k l)
theorem cm_le (k l : List UInt8) : cm k l ≤ 256 := (cm_is k l).1
theorem cm_self (k : List UInt8) : cm k k = 256 := ((show IsCm k k 256 from ⟨Nat.le_refl _, fun _ _ => rfl, fun h => absurd h (by decide)⟩).eq).symm
theorem cm_symm (k l : List UInt8) : cm k l = cm l k := by
  obtain ⟨h1, h2, h3⟩ := cm_is k l
  exact IsCm.eq ⟨h1, fun j hj => (h2 j hj).symm, fun h e => h3 h e.symm⟩
/-- Of three keys the least count stands twice. -/
theorem cm_three (a b c : List UInt8) : min (cm a b) (cm b c) ≤ cm a c := by
  obtain ⟨h1, h2, h3⟩ := cm_is a c
  rcases Nat.lt_or_ge (cm a c) (min (cm a b) (cm b c)) with h | h
  · have hl1 : cm a c < cm a b := Nat.lt_of_lt_of_le h (Nat.min_le_left _ _)
    have hl2 : cm a c < cm b c := Nat.lt_of_lt_of_le h (Nat.min_le_right _ _)
    have e1 := (cm_is a b).2.1 _ hl1
    have e2 := (cm_is b c).2.1 _ hl2
    exact absurd (e1.trans e2) (h3 (Nat.lt_of_lt_of_le hl1 (cm_le a b)))
  · exact h

theorem byte_of_bits (a b : Nat) (ha : a < 256) (hb : b < 256) (h : ∀ p, p < 8 → a / 2 ^ (7 - p) % 2 = b / 2 ^ (7 - p) % 2) : a = b := by
  have h0 := h 0 (by decide); have h1 := h 1 (by decide); have h2 := h 2 (by decide); have h3 := h 3 (by decide)
  have h4 := h 4 (by decide); have h5 := h 5 (by decide); have h6 := h 6 (by decide); have h7 := h 7 (by decide)
  simp only [Nat.sub_zero, Nat.reducePow, Nat.reduceSub] at h0 h1 h2 h3 h4 h5 h6 h7
  omega

theorem bitN_byte (l : List UInt8) (n p : Nat) (hp : p < 8) : bitN l (8 * n + p) = (l.getD n 0).toNat / 2 ^ (7 - p) % 2 := by
  unfold bitN
  rw [show (8 * n + p) / 8 = n by omega, show (8 * n + p) % 8 = p by omega]

theorem ext_bytes {k l : List UInt8} (hk : k.length = 32) (hl : l.length = 32) (h : ∀ n, n < 32 → k.getD n 0 = l.getD n 0) : k = l := by
  refine List.ext_getElem (by omega) fun n h1 h2 => ?_
  have := h n (by omega)
  simpa [List.getD_eq_getElem?_getD, h1, h2] using this

theorem cm_256 {k l : List UInt8} (hk : k.length = 32) (hl : l.length = 32) (h : cm k l = 256) : k = l := by
  have h2 := (cm_is k l).2.1
  rw [h] at h2
  refine ext_bytes hk hl fun n hn => ?_
  refine UInt8.toNat_inj.1 (byte_of_bits _ _ (UInt8.toNat_lt _) (UInt8.toNat_lt _) fun p hp => ?_)
  have := h2 (8 * n + p) (by omega)
  rwa [bitN_byte k n p hp, bitN_byte l n p hp] at this
theorem cm_lt {k l : List UInt8} (hk : k.length = 32) (hl : l.length = 32) (h : k ≠ l) : cm k l < 256 := by
  have := cm_le k l
  rcases Nat.lt_or_ge (cm k l) 256 with h' | h'
  · exact h'
  · exact absurd (cm_256 hk hl (by omega)) h

/-- k stands ahead of l. -/
def ltB (k l : List UInt8) : Bool := decide (cm k l < 256) && decide (bitN k (cm k l) = 0)

/-- The first byte that differs, and the first bit in it. -/
theorem isCm_of_byte {k l : List UInt8} (n p : Nat) (hn : n < 32) (hp : p < 8) (heq : ∀ j, j < n → k.getD j 0 = l.getD j 0)
    (hb : ∀ q, q < p → (k.getD n 0).toNat / 2 ^ (7 - q) % 2 = (l.getD n 0).toNat / 2 ^ (7 - q) % 2)
    (hd : (k.getD n 0).toNat / 2 ^ (7 - p) % 2 ≠ (l.getD n 0).toNat / 2 ^ (7 - p) % 2) : IsCm k l (8 * n + p) := by
  refine ⟨by omega, fun j hj => ?_, fun _ => by rwa [bitN_byte k n p hp, bitN_byte l n p hp]⟩
  rw [show j = 8 * (j / 8) + j % 8 by omega, bitN_byte k _ _ (Nat.mod_lt _ (by decide)), bitN_byte l _ _ (Nat.mod_lt _ (by decide))]
  rcases Nat.lt_or_ge (j / 8) n with h | h
  · rw [heq _ h]
  · have e : j / 8 = n := by omega
    rw [e]
    exact hb _ (by omega)

/-- Bytes that differ: the first bit that differs. -/
theorem first_bit (a b : Nat) (ha : a < 256) (hb : b < 256) (h : a ≠ b) : ∃ p, p < 8 ∧ (∀ q, q < p → a / 2 ^ (7 - q) % 2 = b / 2 ^ (7 - q) % 2) ∧ a / 2 ^ (7 - p) % 2 ≠ b / 2 ^ (7 - p) % 2 := by
  cases hf : (List.range 8).find? fun p => a / 2 ^ (7 - p) % 2 != b / 2 ^ (7 - p) % 2 with
  | none =>
    rw [List.find?_eq_none] at hf
    exact absurd (byte_of_bits a b ha hb fun p hp => by simpa using hf p (List.mem_range.2 hp)) h
  | some i =>
    rw [List.find?_range_eq_some] at hf
    obtain ⟨hp, hm, hb'⟩ := hf
    exact ⟨i, by simpa using hm, fun q hq => by simpa using hb' q hq, by simpa using hp⟩

theorem bits8 (a : Nat) (h : a < 256) : a = 128 * (a / 2 ^ (7 - 0) % 2) + 64 * (a / 2 ^ (7 - 1) % 2) + 32 * (a / 2 ^ (7 - 2) % 2) + 16 * (a / 2 ^ (7 - 3) % 2) + 8 * (a / 2 ^ (7 - 4) % 2) + 4 * (a / 2 ^ (7 - 5) % 2) + 2 * (a / 2 ^ (7 - 6) % 2) + a / 2 ^ (7 - 7) % 2 := by
  simp only [Nat.sub_zero, Nat.reducePow, Nat.reduceSub]
  omega
theorem lt_of_bits (f g : Nat → Nat) (a b p : Nat) (hf : ∀ q, f q < 2) (hg : ∀ q, g q < 2)
    (ha : a = 128 * f 0 + 64 * f 1 + 32 * f 2 + 16 * f 3 + 8 * f 4 + 4 * f 5 + 2 * f 6 + f 7)
    (hb : b = 128 * g 0 + 64 * g 1 + 32 * g 2 + 16 * g 3 + 8 * g 4 + 4 * g 5 + 2 * g 6 + g 7)
    (hp : p < 8) (hq : ∀ q, q < p → f q = g q) (hd : f p ≠ g p) : (a < b ↔ f p = 0) := by
  have f0 := hf 0; have f1 := hf 1; have f2 := hf 2; have f3 := hf 3; have f4 := hf 4; have f5 := hf 5; have f6 := hf 6; have f7 := hf 7
  have g0 := hg 0; have g1 := hg 1; have g2 := hg 2; have g3 := hg 3; have g4 := hg 4; have g5 := hg 5; have g6 := hg 6; have g7 := hg 7
  subst ha hb
  match p, hp with
  | 0, _ => omega
  | 1, _ => rw [hq 0 (by decide)] at *; omega
  | 2, _ => rw [hq 0 (by decide), hq 1 (by decide)] at *; omega
  | 3, _ => rw [hq 0 (by decide), hq 1 (by decide), hq 2 (by decide)] at *; omega
  | 4, _ => rw [hq 0 (by decide), hq 1 (by decide), hq 2 (by decide), hq 3 (by decide)] at *; omega
  | 5, _ => rw [hq 0 (by decide), hq 1 (by decide), hq 2 (by decide), hq 3 (by decide), hq 4 (by decide)] at *; omega
  | 6, _ => rw [hq 0 (by decide), hq 1 (by decide), hq 2 (by decide), hq 3 (by decide), hq 4 (by decide), hq 5 (by decide)] at *; omega
  | 7, _ => rw [hq 0 (by decide), hq 1 (by decide), hq 2 (by decide), hq 3 (by decide), hq 4 (by decide), hq 5 (by decide), hq 6 (by decide)] at *; omega
theorem lt_of_first (a b p : Nat) (ha : a < 256) (hb : b < 256) (hp : p < 8) (hq : ∀ q, q < p → a / 2 ^ (7 - q) % 2 = b / 2 ^ (7 - q) % 2) (hd : a / 2 ^ (7 - p) % 2 ≠ b / 2 ^ (7 - p) % 2) :
    (a < b ↔ a / 2 ^ (7 - p) % 2 = 0) :=
  lt_of_bits (fun q => a / 2 ^ (7 - q) % 2) (fun q => b / 2 ^ (7 - q) % 2) a b p (fun _ => Nat.mod_lt _ (by decide)) (fun _ => Nat.mod_lt _ (by decide)) (bits8 a ha) (bits8 b hb) hp hq hd

/-- By the first byte that differs. -/
theorem ltB_of_byte {k l : List UInt8} (n : Nat) (hn : n < 32) (heq : ∀ j, j < n → k.getD j 0 = l.getD j 0) (hd : k.getD n 0 ≠ l.getD n 0) :
    ltB k l = decide ((k.getD n 0).toNat < (l.getD n 0).toNat) := by
  obtain ⟨p, hp, hb, hne⟩ := first_bit _ _ (UInt8.toNat_lt _) (UInt8.toNat_lt _) (fun e => hd (UInt8.toNat_inj.1 e))
  have hc := isCm_of_byte n p hn hp heq hb hne
  have he := hc.eq
  have hl := lt_of_first _ _ p (UInt8.toNat_lt _) (UInt8.toNat_lt _) hp hb hne
  unfold ltB
  rw [← he, bitN_byte k n p hp]
  have h256 : 8 * n + p < 256 := by omega
  simp only [h256, decide_true, Bool.true_and]
  exact decide_eq_decide.2 hl.symm

theorem ltB_self (k : List UInt8) : ltB k k = false := by simp [ltB, cm_self]
theorem ltB_asymm {k l : List UInt8} (h : ltB k l = true) : ltB l k = false := by
  unfold ltB at *
  rw [cm_symm l k]
  simp only [Bool.and_eq_true, decide_eq_true_eq] at h
  have := (cm_is k l).2.2 h.1
  have h2 := bitN_lt l (cm k l)
  simp only [Bool.and_eq_false_iff, decide_eq_false_iff_not]
  exact .inr (by omega)
theorem ltB_total {k l : List UInt8} (hk : k.length = 32) (hl : l.length = 32) (h : k ≠ l) : ltB k l = true ∨ ltB l k = true := by
  have hc := cm_lt hk hl h
  unfold ltB
  rw [cm_symm l k]
  have := (cm_is k l).2.2 hc
  have h1 := bitN_lt k (cm k l)
  have h2 := bitN_lt l (cm k l)
  simp only [Bool.and_eq_true, decide_eq_true_eq]
  omega
/-- It stands in an order. -/
theorem ltB_trans {a b c : List UInt8} (h : ltB a b = true) (h' : ltB b c = true) : ltB a c = true := by
  unfold ltB at *
  simp only [Bool.and_eq_true, decide_eq_true_eq] at *
  obtain ⟨h1, h2⟩ := h
  obtain ⟨h3, h4⟩ := h'
  obtain ⟨_, p2, p3⟩ := cm_is a b
  obtain ⟨_, q2, q3⟩ := cm_is b c
  have p3' := p3 h1
  have q3' := q3 h3
  rcases Nat.lt_trichotomy (cm a b) (cm b c) with hlt | he | hlt
  · have : IsCm a c (cm a b) := ⟨by omega, fun j hj => (p2 j hj).trans (q2 j (by omega)), fun _ e => p3' (e.trans (q2 _ hlt).symm)⟩
    rw [← this.eq]; exact ⟨h1, h2⟩
  · rw [he] at p3' h2; omega
  · have : IsCm a c (cm b c) := ⟨by omega, fun j hj => (p2 j (by omega)).trans (q2 j hj), fun _ e => q3' ((p2 _ hlt).symm.trans e)⟩
    rw [← this.eq]; exact ⟨h3, (p2 _ hlt).trans h4⟩
end Go.Cu
/- A tree of leaves and what is proved of it, plainly. No program. -/
namespace Go.Cu
/-- A tree: a node has its depth. -/
inductive Tr where
  | nil
  | leaf (k v : List UInt8)
  | node (d : Nat) (a b : Tr)
/-- What is summed of a node. -/
def nodeB (d : Nat) (x y : List UInt8) : List UInt8 := [1, UInt8.ofNat (d / 256), UInt8.ofNat d] ++ x ++ y
def leafB (k v : List UInt8) : List UInt8 := [0] ++ k ++ v
def Tr.sum (H : List UInt8 → List UInt8) : Tr → List UInt8
  | .nil => H [2]
  | .leaf k v => H (leafB k v)
  | .node d a b => H (nodeB d (a.sum H) (b.sum H))
def Tr.keys : Tr → List (List UInt8)
  | .nil => []
  | .leaf k _ => [k]
  | .node _ a b => a.keys ++ b.keys
def Tr.WF : Nat → Tr → Prop
  | _, .nil => True
  | _, .leaf k v => k.length = 32 ∧ v.length = 32
  | d, .node e a b => e = d ∧ d < 256 ∧ a.WF (d + 1) ∧ b.WF (d + 1) ∧ (∀ k ∈ a.keys, bitN k d = 0) ∧ (∀ k ∈ b.keys, bitN k d = 1)
def Tr.Agree (l : List UInt8) (d : Nat) (t : Tr) : Prop := ∀ k ∈ t.keys, ∀ i, i < d → bitN k i = bitN l i
/-- One node upon another, up to a depth. -/
def chain (k : List UInt8) (d : Nat) : Nat → Tr → Tr
  | 0, t => t
  | m + 1, t => chain k d m (if bitN k (d + m) = 0 then .node (d + m) t .nil else .node (d + m) .nil t)
def partKey (x y : List UInt8) : List UInt8 := if bitN x (cm x y) = 1 then y else x
def partEnd (x vx y vy : List UInt8) : Tr := if bitN x (cm x y) = 1 then .node (cm x y) (.leaf y vy) (.leaf x vx) else .node (cm x y) (.leaf x vx) (.leaf y vy)
def partT (x vx y vy : List UInt8) (d : Nat) : Tr := chain (partKey x y) d (cm x y - d) (partEnd x vx y vy)
def Tr.put (lk lv : List UInt8) : Nat → Tr → Tr
  | _, .nil => .leaf lk lv
  | d, .leaf k v => if k = lk then .leaf lk lv else partT k v lk lv d
  | d, .node _ a b => if bitN lk d = 0 then .node d (a.put lk lv (d + 1)) b else .node d a (b.put lk lv (d + 1))
def Tr.last (k : List UInt8) : Nat → Tr → Tr
  | _, .nil => .nil
  | _, .leaf x v => .leaf x v
  | d, .node _ a b => if bitN k d = 0 then a.last k (d + 1) else b.last k (d + 1)
def Tr.beside (H : List UInt8 → List UInt8) (k : List UInt8) : Nat → Tr → List (List UInt8)
  | _, .nil => []
  | _, .leaf _ _ => []
  | d, .node _ a b => if bitN k d = 0 then b.sum H :: a.beside H k (d + 1) else a.sum H :: b.beside H k (d + 1)
def Tr.lastB : Tr → List UInt8
  | .leaf k v => leafB k v
  | _ => [2]
def nodeS (d b : Nat) (s t : List UInt8) : List UInt8 := if b = 1 then nodeB d t s else nodeB d s t
def climb (H : List UInt8 → List UInt8) (k e : List UInt8) : Nat → List (List UInt8) → List UInt8
  | _, [] => e
  | d, s :: ss => nodeS d (bitN k d) (H (climb H k e (d + 1) ss)) s
section
variable {H : List UInt8 → List UInt8} {k l lk lv : List UInt8}
theorem bitN_one {i : Nat} (h : ¬ bitN k i = 0) : bitN k i = 1 := by have := bitN_lt k i; omega
theorem Tr.last_ne (t : Tr) : ∀ d e a b, t.last k d ≠ .node e a b := by
  induction t with
  | nil => intro d e a b h; cases h
  | leaf x v => intro d e a b h; cases h
  | node e a b iha ihb =>
    intro d e' a' b'
    unfold Tr.last
    split
    · exact iha _ _ _ _
    · exact ihb _ _ _ _
/-- What is proved sums to the root. -/
theorem climb_beside (t : Tr) : ∀ d, t.WF d → H (climb H k (t.last k d).lastB d (t.beside H k d)) = t.sum H := by
  induction t with
  | nil => intro d _; rfl
  | leaf x v => intro d _; rfl
  | node e a b iha ihb =>
    intro d h
    obtain ⟨rfl, _, ha, hb, _, _⟩ := h
    unfold Tr.last Tr.beside
    by_cases hz : bitN k e = 0
    · rw [if_pos hz, if_pos hz]
      unfold climb nodeS
      rw [iha _ ha, hz, if_neg (by decide)]
      rfl
    · rw [if_neg hz, if_neg hz]
      unfold climb nodeS
      rw [ihb _ hb, bitN_one hz, if_pos rfl]
      rfl
theorem beside_len (t : Tr) : ∀ d, t.WF d → d ≤ 256 → (t.beside H k d).length + d ≤ 256 := by
  induction t with
  | nil => intro d _ hd; simpa [Tr.beside] using hd
  | leaf x v => intro d _ hd; simpa [Tr.beside] using hd
  | node e a b iha ihb =>
    intro d h hd
    obtain ⟨rfl, h1, ha, hb, _, _⟩ := h
    unfold Tr.beside
    split
    · have := iha _ ha (by omega); simp only [List.length_cons]; omega
    · have := ihb _ hb (by omega); simp only [List.length_cons]; omega
theorem Tr.Agree.left {e d : Nat} {a b : Tr} (h : Tr.Agree l d (.node e a b)) : a.Agree l d := fun k hk => h k (List.mem_append_left _ hk)
theorem Tr.Agree.right {e d : Nat} {a b : Tr} (h : Tr.Agree l d (.node e a b)) : b.Agree l d := fun k hk => h k (List.mem_append_right _ hk)
theorem Tr.Agree.succ {d n : Nat} {a : Tr} (h : a.Agree l d) (h1 : ∀ k ∈ a.keys, bitN k d = n) (h2 : bitN l d = n) : a.Agree l (d + 1) := fun k hk i hi => by
  rcases Nat.lt_or_ge i d with h' | h'
  · exact h k hk i h'
  · obtain rfl : i = d := by omega
    rw [h1 k hk, h2]
/-- The end shares with the key all bits of the way. -/
theorem last_agree (t : Tr) : ∀ d, t.WF d → t.Agree l d → (t.last l d).Agree l (d + (t.beside H l d).length) := by
  induction t with
  | nil => intro d _ h k hk; cases hk
  | leaf x v => intro d _ h; exact h
  | node e a b iha ihb =>
    intro d hw h
    obtain ⟨rfl, _, ha, hb, h0, h1⟩ := hw
    unfold Tr.last Tr.beside
    by_cases hz : bitN l e = 0
    · rw [if_pos hz, if_pos hz]
      have := iha _ ha (h.left.succ h0 hz)
      rwa [List.length_cons, show e + ((a.beside H l (e + 1)).length + 1) = e + 1 + (a.beside H l (e + 1)).length by omega]
    · rw [if_neg hz, if_neg hz]
      have := ihb _ hb (h.right.succ h1 (bitN_one hz))
      rwa [List.length_cons, show e + ((b.beside H l (e + 1)).length + 1) = e + 1 + (b.beside H l (e + 1)).length by omega]
theorem cm_ge {k l : List UInt8} {n : Nat} (hn : n ≤ 256) (h : ∀ i, i < n → bitN k i = bitN l i) : n ≤ cm k l := by
  rcases Nat.lt_or_ge (cm k l) n with h' | h'
  · exact absurd (h _ h') ((cm_is k l).2.2 (by omega))
  · exact h'
theorem last_under {t : Tr} {x v : List UInt8} (hw : t.WF 0) (hl : t.last l 0 = .leaf x v) : (t.beside H l 0).length ≤ cm x l := by
  have h1 := last_agree (H := H) (l := l) t 0 hw (fun _ _ _ hi => absurd hi (by omega))
  have h2 := beside_len (H := H) (k := l) t 0 hw (by decide)
  rw [hl, Nat.zero_add] at h1
  exact cm_ge (by omega) (h1 x (by simp [Tr.keys]))
theorem last_wf (t : Tr) : ∀ d, t.WF d → ∀ x v, t.last l d = .leaf x v → x.length = 32 ∧ v.length = 32 := by
  induction t with
  | nil => intro d _ x v h; cases h
  | leaf x v => intro d hw x' v' h; cases h; exact hw
  | node e a b iha ihb =>
    intro d hw x v
    obtain ⟨_, _, ha, hb, _, _⟩ := hw
    unfold Tr.last
    split
    · exact iha _ ha x v
    · exact ihb _ hb x v
theorem chain_keys (m : Nat) : ∀ {d : Nat} {t : Tr}, (chain k d m t).keys = t.keys := by
  induction m with
  | zero => intro d t; rfl
  | succ m ih =>
    intro d t
    unfold chain
    rw [ih]
    split <;> simp [Tr.keys]
theorem chain_wf (m : Nat) : ∀ {d : Nat} {t : Tr}, t.WF (d + m) → t.Agree k (d + m) → d + m ≤ 256 → (chain k d m t).WF d := by
  induction m with
  | zero => intro d t h _ _; exact h
  | succ m ih =>
    intro d t h ha hm
    unfold chain
    have hb : ∀ x ∈ t.keys, bitN x (d + m) = bitN k (d + m) := fun x hx => ha x hx _ (by omega)
    split
    · rename_i hz
      refine ih ⟨rfl, by omega, h, trivial, fun x hx => (hb x hx).trans hz, fun x hx => nomatch hx⟩ (fun x hx i hi => ha x (by simpa [Tr.keys] using hx) i (by omega)) (by omega)
    · rename_i hz
      refine ih ⟨rfl, by omega, trivial, h, (fun x hx => nomatch hx), fun x hx => (hb x hx).trans (bitN_one hz)⟩ (fun x hx i hi => ha x (by simpa [Tr.keys] using hx) i (by omega)) (by omega)
theorem chain_last (m : Nat) : ∀ {d : Nat} {t : Tr}, (∀ i, i < d + m → bitN k i = bitN l i) → (chain k d m t).last l d = t.last l (d + m) := by
  induction m with
  | zero => intro d t _; rfl
  | succ m ih =>
    intro d t h
    unfold chain
    have hb := h (d + m) (by omega)
    rw [ih (fun i hi => h i (by omega))]
    split
    · rename_i hz
      exact if_pos (hb ▸ hz)
    · rename_i hz
      exact if_neg (hb ▸ hz)
section part
variable {x vx y vy : List UInt8} (hx : x.length = 32) (hy : y.length = 32) (hvx : vx.length = 32) (hvy : vy.length = 32) (hne : x ≠ y)
theorem partEnd_keys : (partEnd x vx y vy).keys = if bitN x (cm x y) = 1 then [y, x] else [x, y] := by unfold partEnd; split <;> rfl
include hx hy hne in
theorem part_bits : bitN x (cm x y) = 1 ∧ bitN y (cm x y) = 0 ∨ bitN x (cm x y) = 0 ∧ bitN y (cm x y) = 1 := by
  have h := (cm_is x y).2.2 (cm_lt hx hy hne)
  have h1 := bitN_lt x (cm x y)
  have h2 := bitN_lt y (cm x y)
  omega
theorem partKey_bits {i : Nat} (hi : i < cm x y) : bitN (partKey x y) i = bitN x i ∧ bitN (partKey x y) i = bitN y i := by
  have h := (cm_is x y).2.1 i hi
  unfold partKey
  split
  · exact ⟨h.symm, rfl⟩
  · exact ⟨rfl, h⟩
include hx hy hvx hvy hne in
theorem partEnd_wf : (partEnd x vx y vy).WF (cm x y) := by
  have hc := cm_lt hx hy hne
  unfold partEnd
  rcases part_bits hx hy hne with ⟨h1, h2⟩ | ⟨h1, h2⟩
  · rw [if_pos h1]
    exact ⟨rfl, hc, ⟨hy, hvy⟩, ⟨hx, hvx⟩, fun k hk => by rw [List.mem_singleton.1 hk]; exact h2, fun k hk => by rw [List.mem_singleton.1 hk]; exact h1⟩
  · rw [if_neg (by omega)]
    exact ⟨rfl, hc, ⟨hx, hvx⟩, ⟨hy, hvy⟩, fun k hk => by rw [List.mem_singleton.1 hk]; exact h1, fun k hk => by rw [List.mem_singleton.1 hk]; exact h2⟩
theorem partEnd_agree : (partEnd x vx y vy).Agree (partKey x y) (cm x y) := fun k hk i hi => by
  rw [partEnd_keys] at hk
  obtain ⟨h1, h2⟩ := partKey_bits (x := x) (y := y) hi
  have : k = x ∨ k = y := by split at hk <;> simp at hk <;> rcases hk with h | h <;> simp [h]
  rcases this with rfl | rfl
  · exact h1.symm
  · exact h2.symm
include hx hy hvx hvy hne in
theorem partT_wf {d : Nat} (hd : d ≤ cm x y) : (partT x vx y vy d).WF d := by
  have hc := cm_lt hx hy hne
  have e : d + (cm x y - d) = cm x y := by omega
  refine chain_wf _ ?_ ?_ (by omega)
  · rw [e]; exact partEnd_wf hx hy hvx hvy hne
  · rw [e]; exact partEnd_agree
theorem partT_keys {d : Nat} : ∀ k ∈ (partT x vx y vy d).keys, k = x ∨ k = y := by
  intro k hk
  unfold partT at hk
  rw [chain_keys, partEnd_keys] at hk
  split at hk <;> simp at hk <;> rcases hk with h | h <;> simp [h]
include hx hy hne in
theorem partT_last {d : Nat} (hd : d ≤ cm x y) : (partT x vx y vy d).last y d = .leaf y vy := by
  have e : d + (cm x y - d) = cm x y := by omega
  unfold partT
  rw [chain_last _ (l := y) (by rw [e]; exact fun i hi => (partKey_bits hi).2), e]
  unfold partEnd
  rcases part_bits hx hy hne with ⟨h1, h2⟩ | ⟨h1, h2⟩
  · rw [if_pos h1]; unfold Tr.last; rw [if_pos h2]; rfl
  · rw [if_neg (by omega)]; unfold Tr.last; rw [if_neg (by omega)]; rfl
end part
theorem put_keys (t : Tr) : ∀ d, ∀ k ∈ (t.put lk lv d).keys, k = lk ∨ k ∈ t.keys := by
  induction t with
  | nil => intro d k hk; exact .inl (List.mem_singleton.1 hk)
  | leaf x v =>
    intro d k hk
    unfold Tr.put at hk
    split at hk
    · exact .inl (List.mem_singleton.1 hk)
    · rcases partT_keys k hk with h | h
      · exact .inr (by simp [Tr.keys, h])
      · exact .inl h
  | node e a b iha ihb =>
    intro d k hk
    unfold Tr.put at hk
    split at hk
    · rcases List.mem_append.1 hk with h | h
      · rcases iha _ k h with h | h
        · exact .inl h
        · exact .inr (List.mem_append_left _ h)
      · exact .inr (List.mem_append_right _ h)
    · rcases List.mem_append.1 hk with h | h
      · exact .inr (List.mem_append_left _ h)
      · rcases ihb _ k h with h | h
        · exact .inl h
        · exact .inr (List.mem_append_right _ h)
section put
variable (hlk : lk.length = 32) (hlv : lv.length = 32)
include hlk hlv in
theorem put_wf (t : Tr) : ∀ d, t.WF d → t.Agree lk d → d ≤ 256 → (t.put lk lv d).WF d := by
  induction t with
  | nil => intro d _ _ _; exact ⟨hlk, hlv⟩
  | leaf x v =>
    intro d hw ha hd
    unfold Tr.put
    split
    · exact ⟨hlk, hlv⟩
    · rename_i hne
      exact partT_wf hw.1 hlk hw.2 hlv hne (cm_ge hd (ha x (by simp [Tr.keys])))
  | node e a b iha ihb =>
    intro d hw ha hd
    obtain ⟨rfl, h256, wa, wb, h0, h1⟩ := hw
    unfold Tr.put
    by_cases hz : bitN lk e = 0
    · rw [if_pos hz]
      exact ⟨rfl, h256, iha _ wa (ha.left.succ h0 hz) (by omega), wb, fun k hk => by
        rcases put_keys a _ k hk with h | h
        · rw [h]; exact hz
        · exact h0 k h, h1⟩
    · rw [if_neg hz]
      exact ⟨rfl, h256, wa, ihb _ wb (ha.right.succ h1 (bitN_one hz)) (by omega), h0, fun k hk => by
        rcases put_keys b _ k hk with h | h
        · rw [h]; exact bitN_one hz
        · exact h1 k h⟩
include hlk in
/-- What was put is found. -/
theorem put_last (t : Tr) : ∀ d, t.WF d → t.Agree lk d → d ≤ 256 → (t.put lk lv d).last lk d = .leaf lk lv := by
  induction t with
  | nil => intro d _ _ _; rfl
  | leaf x v =>
    intro d hw ha hd
    unfold Tr.put
    split
    · rfl
    · rename_i hne
      exact partT_last hw.1 hlk hne (cm_ge hd (ha x (by simp [Tr.keys])))
  | node e a b iha ihb =>
    intro d hw ha hd
    obtain ⟨rfl, h256, wa, wb, h0, h1⟩ := hw
    unfold Tr.put
    by_cases hz : bitN lk e = 0
    · rw [if_pos hz]
      unfold Tr.last
      rw [if_pos hz]
      exact iha _ wa (ha.left.succ h0 hz) (by omega)
    · rw [if_neg hz]
      unfold Tr.last
      rw [if_neg hz]
      exact ihb _ wb (ha.right.succ h1 (bitN_one hz)) (by omega)
end put
theorem agree0 (t : Tr) : t.Agree l 0 := fun _ _ i hi => absurd hi (by omega)
end
end Go.Cu
/- Byte arrays by value: the generic laws (over any program) of loads, indexes, stores and comparisons of arrays of bytes. -/
namespace Go.Cu
open Go Go.RowKit

theorem hid {p : Prop} (h : p) : Hid p := h
theorem heap_alloc_at {w : World} (o : Obj) (n : Nat) (hn : n = w.heap.size) : (w.alloc o).heap[n]? = some o := by subst hn; exact heap_alloc_new w o
theorem heap_alloc_past {w : World} (o : Obj) (n : Nat) (hn : n < w.heap.size) : (w.alloc o).heap[n]? = w.heap[n]? := Below.heap_alloc w o n hn
/-- Outside the blocks of F (and what is new) nothing has turned. -/
structure Tch (F : Nat → Prop) (w w' : World) : Prop where
  os : w'.os = w.os
  tape : w'.tape = w.tape
  output : w'.output = w.output
  size : w.heap.size ≤ w'.heap.size
  block : ∀ k, k < w.heap.size → ¬ F k → w'.heap[k]? = w.heap[k]?
theorem Tch.refl (F : Nat → Prop) (w : World) : Tch F w w := ⟨rfl, rfl, rfl, Nat.le_refl _, fun _ _ _ => rfl⟩
theorem Tch.trans {F G H : Nat → Prop} {a b c : World} (h : Tch F a b) (k : Tch G b c) (hF : ∀ i, F i → H i) (hG : ∀ i, i < a.heap.size → G i → H i) : Tch H a c :=
  ⟨k.os.trans h.os, k.tape.trans h.tape, k.output.trans h.output, Nat.le_trans h.size k.size, fun i hi hn =>
    (k.block i (Nat.lt_of_lt_of_le hi h.size) (fun g => hn (hG i hi g))).trans (h.block i hi (fun f => hn (hF i f)))⟩
theorem Tch.mono {F G : Nat → Prop} {a b : World} (h : Tch F a b) (hF : ∀ i, i < a.heap.size → F i → G i) : Tch G a b :=
  ⟨h.os, h.tape, h.output, h.size, fun i hi hn => h.block i hi (fun f => hn (hF i hi f))⟩
theorem Tch.below {F : Nat → Prop} {a b : World} {B : Nat} (h : Tch F a b) (hB : B ≤ a.heap.size) (hF : ∀ i, F i → B ≤ i) : Below B a b :=
  ⟨h.os, h.tape, h.output, h.size, fun i hi => h.block i (by omega) (fun f => by have := hF i f; omega)⟩
theorem Tch.of_below {F : Nat → Prop} {a b : World} (h : Below a.heap.size a b) : Tch F a b :=
  ⟨h.os, h.tape, h.output, h.size, fun i hi _ => h.block i hi⟩
theorem Tch.setCell {F : Nat → Prop} {a b : World} (h : Tch F a b) {g i : Nat} (hg : F g) (v : Value) : Tch F a (b.setCell ⟨g, i, none⟩ v) :=
  ⟨h.os, h.tape, h.output, by simpa using h.size, fun k hk hn => (Below.heap_setCell b ⟨g, i, none⟩ v k (fun e => hn (by rw [e]; exact hg))).trans (h.block k hk hn)⟩
/-- Bytes as cells. -/
def bv (l : List UInt8) : Array Value := (l.map fun b => Value.int .u8 b.toNat).toArray
/-- A byte as a number. -/
def bt (l : List UInt8) (i : Nat) : Int := ((l.getD i 0).toNat : Int)
theorem bt_ge (l : List UInt8) (i : Nat) : 0 ≤ bt l i := by unfold bt; omega
theorem bt_lt (l : List UInt8) (i : Nat) : bt l i < 256 := by unfold bt; have := (l.getD i 0).toNat_lt; omega
theorem bv_get (l : List UInt8) (i : Nat) (h : i < l.length) : (bv l)[i]? = some (.int .u8 (bt l i)) := by
  simp [bv, bt, h]
theorem bv_size (l : List UInt8) : (bv l).size = l.length := by simp [bv]
theorem bv_toList (l : List UInt8) : (bv l).toList = l.map fun b => Value.int .u8 b.toNat := by simp [bv]
theorem bv_one (l : List UInt8) : ∀ u ∈ (bv l).toList, u.oneCell' = true := by
  intro u hu
  simp only [bv_toList, List.mem_map] at hu
  obtain ⟨b, _, rfl⟩ := hu
  rfl
theorem bv_inj {l m : List UInt8} (h : bv l = bv m) : l = m := by
  have h' := congrArg Array.toList h
  simp only [bv_toList] at h'
  refine (List.map_inj_right ?_).1 h'
  intro a b e
  injection e with _ e
  exact UInt8.toNat_inj.1 (by omega)

/-- The elements' type is of one cell of a byte. -/
structure ByteElem (P : Program) (e : TypeId) : Prop where
  size : (P.info? e).map (·.size) = some 1
  und : P.underlying e = some (.int .u8)

section
variable {P : Program} {t e : TypeId} {n : Nat}

theorem run_sizeOf {s : Nat} (hi : (P.info? e).map (·.size) = some s) (w : World) : (sizeOf e).run P w = .ok s w := by
  cases hq : P.info? e with
  | none => simp [hq] at hi
  | some d =>
    have hs : d.size = s := by simpa [hq] using hi
    simp [sizeOf, typeInfo, hq, hs]

theorem run_isAgg_no (h : P.underlying e = some (.int .u8)) (w : World) : (isAgg e).run P w = .ok false w := by
  simp [isAgg, run_underlying h]

theorem run_isAgg_yes {d : TypeDesc} (h : P.underlying e = some d) (hd : (match d with | .struct _ | .array _ _ => true | _ => false) = true) (w : World) : (isAgg e).run P w = .ok true w := by
  unfold isAgg
  rw [Sem.run_bind, run_underlying h w]
  cases d <;> simp_all

theorem run_part_bv (he : ByteElem P e) (l : List UInt8) (i : Nat) (h : i < l.length) (w : World) : (part e (bv l) i).run P w = .ok (.int .u8 (bt l i)) w := by
  simp [part, run_isAgg_no he.und, bv_get l i h]

theorem run_index_bv (ht : P.underlying t = some (.array n e)) (he : ByteElem P e)
    (l : List UInt8) (hl : l.length = n) (i : Nat) (h : i < n) (w : World) :
    (Instr.index t (.agg (bv l)) (.int .i64 i)).run P w = .ok (.int .u8 (bt l i)) w := by
  have hin : ¬ (n ≤ i) := by omega
  simp [Instr.index, asIntOf, run_underlying ht, hin, run_sizeOf he.size, run_part_bv he l i (hl ▸ h)]

theorem load_cells_of (w : World) (g off : Nat) (t' : TypeId) (cs vs : Array Value) (fr : Nat × Nat) (hg : w.heap[g]? = some (.cells cs t' fr))
    (hv : ∀ j, j < vs.size → cs[off + j]? = vs[j]?) : (loadCells ⟨g, off, none⟩ vs.size).run P w = .ok vs w := by
  have hl : (loadCells ⟨g, off, none⟩ vs.toList.length).run P w = .ok vs.toList.toArray w :=
    run_loadCells_list (P := P) w ⟨g, off, none⟩ vs.toList (fun j v hj => by
      have hadd : (⟨g, off, none⟩ : Addr).add j = ⟨g, off + j, none⟩ := by unfold Addr.add; split <;> simp_all
      have hlt : j < vs.size := by
        rcases Nat.lt_or_ge j vs.size with h | h
        · exact h
        · rw [List.getElem?_eq_none (by simpa using h)] at hj; cases hj
      rw [hadd, cell_of_row w g (off + j) cs t' fr hg, hv j hlt]
      simpa using hj)
  simpa using hl

/-- An aggregate loaded out of a block that is known whole. -/
theorem run_loadVar_part (w : World) (g off : Nat) (t' ty : TypeId) (cs vs : Array Value) (fr : Nat × Nat) {d : TypeDesc} (hg : w.heap[g]? = some (.cells cs t' fr))
    (hu : P.underlying ty = some d) (hd : (match d with | .struct _ | .array _ _ => true | _ => false) = true) (hi : (P.info? ty).map (·.size) = some vs.size)
    (hv : ∀ j, j < vs.size → cs[off + j]? = vs[j]?) :
    (loadVar ty ⟨g, off, none⟩).run P w = .ok (.agg vs) w := by
  simp [loadVar, Sem.run_bind, run_isAgg_yes hu hd, run_sizeOf hi, load_cells_of w g off t' cs vs fr hg hv]

theorem wp_load_part {o : Oper} {a : Act} {w : World} {K : Act → World → Prop} {Q : Exit → Act → World → Prop} (ty : TypeId) (x : Operand) (ho : o.op = .load ty x)
    (g off : Nat) (hx : a.eval x = .pointer (some ⟨g, off, none⟩)) (t' : TypeId) (cs vs : Array Value) (fr : Nat × Nat) (d : TypeDesc) (hu : P.underlying ty = some d)
    (hd : (match d with | .struct _ | .array _ _ => true | _ => false) = true) (hg : w.heap[g]? = some (.cells cs t' fr)) (hi : (P.info? ty).map (·.size) = some vs.size)
    (hv : ∀ j, j < vs.size → cs[off + j]? = vs[j]?)
    (h : K (a.put o.dst (.agg vs)) w) : o.wp P a w K Q := by
  unfold Oper.wp execOp
  simp only [ho, hx, Instr.loadAt, Instr.sureAddr, Sem.run_bind, Sem.run_pure, Result.andThen_ok, run_loadVar_part w g off t' ty cs vs fr hg hu hd hi hv]
  exact h

/-- A load of an aggregate out of a block that is known whole. -/
theorem wpList_load_part {ops : Array Oper} {rest : List Oper} {o : Oper} {a : Act} {w : World} {Q : Exit → Act → World → Prop} (hgd : o.guard = none) (ty : TypeId) (x : Operand) (ho : o.op = .load ty x)
    (g off : Nat) (hx : a.eval x = .pointer (some ⟨g, off, none⟩)) (t' : TypeId) (cs vs : Array Value) (fr : Nat × Nat) (d : TypeDesc) (hu : P.underlying ty = some d)
    (hd : (match d with | .struct _ | .array _ _ => true | _ => false) = true) (hg : w.heap[g]? = some (.cells cs t' fr)) (hi : (P.info? ty).map (·.size) = some vs.size)
    (hv : ∀ j, j < vs.size → cs[off + j]? = vs[j]?)
    (h : wpList P ops Q rest (a.put o.dst (.agg vs)) w) : wpList P ops Q (o :: rest) a w :=
  wpList_plain hgd fun _ hK => wp_load_part ty x ho g off hx t' cs vs fr d hu hd hg hi hv (hK _ _ h)

/-- The same, the whole of it. -/
theorem wpList_load_box {ops : Array Oper} {rest : List Oper} {o : Oper} {a : Act} {w : World} {Q : Exit → Act → World → Prop} (hgd : o.guard = none) (ty : TypeId) (x : Operand) (ho : o.op = .load ty x)
    (g : Nat) (hx : a.eval x = .pointer (some ⟨g, 0, none⟩)) (d : TypeDesc) (hu : P.underlying ty = some d)
    (hd : (match d with | .struct _ | .array _ _ => true | _ => false) = true) (n : Nat) (hi : (P.info? ty).map (·.size) = some n) (t' : TypeId) (cs : Array Value) (fr : Nat × Nat) (hn : cs.size = n) (hg : w.heap[g]? = some (.cells cs t' fr))
    (h : wpList P ops Q rest (a.put o.dst (.agg cs)) w) : wpList P ops Q (o :: rest) a w :=
  wpList_load_part hgd ty x ho g 0 hx t' cs cs fr d hu hd hg (hn ▸ hi) (fun j _ => by simp) h

theorem wpList_wanted {ops : Array Oper} {rest : List Oper} {o : Oper} {a : Act} {w : World} {Q : Exit → Act → World → Prop} (hw : Region.wanted o (yielded ops a.tmps) = true)
    (h : ∀ K : Act → World → Prop, (∀ a w, wpList P ops Q rest a w → K a w) → o.wp P a w K Q) : wpList P ops Q (o :: rest) a w :=
  wpList_step fun K hK => by rw [if_pos hw]; exact h K hK
/-- A load of an aggregate that is known, its guard saying yes. -/
theorem wpList_load_at {ops : Array Oper} {rest : List Oper} {o : Oper} {a : Act} {w : World} {Q : Exit → Act → World → Prop} (ty : TypeId) (x : Operand) (ho : o.op = .load ty x)
    (g : Nat) (hx : a.eval x = .pointer (some ⟨g, 0, none⟩)) (hw : Region.wanted o (yielded ops a.tmps) = true) (d : TypeDesc) (hu : P.underlying ty = some d)
    (hd : (match d with | .struct _ | .array _ _ => true | _ => false) = true) (n : Nat) (hi : (P.info? ty).map (·.size) = some n) (t' : TypeId) (cs : Array Value) (fr : Nat × Nat) (hg : w.heap[g]? = some (.cells cs t' fr)) (hn : cs.size = n)
    (h : wpList P ops Q rest (a.put o.dst (.agg cs)) w) : wpList P ops Q (o :: rest) a w :=
  wpList_wanted hw fun _ hK => wp_load_part ty x ho g 0 hx t' cs cs fr d hu hd hg (hn ▸ hi) (fun j _ => by simp) (hK _ _ h)

/-- Cells written into an array from a place on. -/
def putAt (cs : Array Value) (o : Nat) (vs : List Value) : Array Value := (cs.toList.take o ++ vs ++ cs.toList.drop (o + vs.length)).toArray
theorem putAt_all (cs vs : Array Value) (h : cs.size = vs.size) : putAt cs 0 vs.toList = vs := by
  unfold putAt
  rw [List.take_zero, List.drop_eq_nil_of_le (by simp; omega)]
  simp
theorem putAt_size (cs : Array Value) (o : Nat) (vs : List Value) (h : o + vs.length ≤ cs.size) : (putAt cs o vs).size = cs.size := by
  simp [putAt]; omega

theorem putAt_one (cs : Array Value) (o : Nat) (v : Value) (h : o < cs.size) : putAt cs o [v] = cs.setIfInBounds o v := by
  apply Array.ext_getElem?
  intro j
  unfold putAt
  simp only [List.getElem?_toArray, List.length_singleton, Array.getElem?_setIfInBounds, h, if_true]
  rw [List.append_assoc]
  by_cases h1 : o = j
  · subst h1
    have : (cs.toList.take o).length = o := by simp; omega
    rw [List.getElem?_append_right (by omega)]
    simp [this]
  · rw [if_neg h1]
    rcases Nat.lt_or_ge j o with h2 | h2
    · rw [List.getElem?_append_left (by simp; omega)]
      simp [h2]
    · have : (cs.toList.take o).length = o := by simp; omega
      rw [List.getElem?_append_right (by omega), this, List.getElem?_append_right (by simp; omega)]
      simp
      congr 1
      omega
theorem bv_set (l : List UInt8) (i : Nat) (b : UInt8) : (bv l).setIfInBounds i (.int .u8 (b.toNat : Int)) = bv (l.set i b) := by
  apply Array.ext_getElem?
  intro j
  simp only [bv, Array.getElem?_setIfInBounds, List.getElem?_toArray, List.getElem?_map, List.getElem?_set, List.size_toArray, List.length_map]
  by_cases h : i = j
  · subst h
    by_cases h2 : i < l.length <;> simp [h2]
  · simp [h]

theorem run_storeVar_part (w : World) (g o : Nat) (ty t : TypeId) (n : Nat) (cur : Array Value) (v : Value) (hg : w.heap[g]? = some (.cells cur t (0, 0))) (hi : (P.info? ty).map (·.size) = some n) (hn : v.cells.size = n)
    (hl : o + n ≤ cur.size) (h1 : ∀ u ∈ v.cells.toList, u.oneCell' = true) : (storeVar ty ⟨g, o, none⟩ v).run P w = .ok () (w.setRow g (putAt cur o v.cells.toList)) := by
  have h := run_storeCells_at (P := P) g o t v.cells.toList 0 cur w hg (by simp; omega) h1
  simp only [Nat.add_zero] at h
  simp only [storeVar, Sem.run_bind, run_sizeOf hi, Result.andThen_ok, hn]
  simpa [putAt] using h

/-- A store of a value of n cells into a block that is known whole. -/
theorem wpList_store_part {ops : Array Oper} {rest : List Oper} {o : Oper} {a : Act} {w : World} {Q : Exit → Act → World → Prop} (ty : TypeId) (x y : Operand) (ho : o.op = .store ty x y)
    (g off : Nat) (hx : a.eval x = .pointer (some ⟨g, off, none⟩)) (hw : Region.wanted o (yielded ops a.tmps) = true) (v : Value) (hy : a.eval y = v) (n : Nat) (hi : (P.info? ty).map (·.size) = some n) (hn : v.cells.size = n) (h1 : ∀ u ∈ v.cells.toList, u.oneCell' = true)
    (t : TypeId) (cur : Array Value) (hg : w.heap[g]? = some (.cells cur t (0, 0))) (hl : off + n ≤ cur.size)
    (h : ∀ W : World, W.heap[g]? = some (.cells (putAt cur off v.cells.toList) t (0, 0)) → Tch (· = g) w W → W.heap.size = w.heap.size → wpList P ops Q rest (a.put o.dst undef) W) : wpList P ops Q (o :: rest) a w := by
  refine wpList_wanted hw fun K hK => ?_
  have hrun : (execOp a.eval o).run P w = .ok .skip (w.setRow g (putAt cur off v.cells.toList)) := by
    unfold execOp
    simp only [ho, hx, hy, Instr.storeAt, Instr.sureAddr, Sem.run_bind, Sem.run_pure, Result.andThen_ok, run_storeVar_part w g off ty t n cur v hg hi hn hl h1]
  unfold Oper.wp
  rw [hrun]
  exact hK _ _ (h _ (setRow_heap w g cur _ t _ hg) ⟨rfl, rfl, rfl, by simp, fun k _ hk => setRow_other w g k _ hk⟩ (by simp))

/-- A store of a whole aggregate over a block of its size. -/
theorem wpList_store_box {ops : Array Oper} {rest : List Oper} {o : Oper} {a : Act} {w : World} {Q : Exit → Act → World → Prop} (ty : TypeId) (x y : Operand) (ho : o.op = .store ty x y)
    (g : Nat) (hx : a.eval x = .pointer (some ⟨g, 0, none⟩)) (hw : Region.wanted o (yielded ops a.tmps) = true) (cs : Array Value) (hy : a.eval y = .agg cs) (n : Nat) (hi : (P.info? ty).map (·.size) = some n) (hn : cs.size = n) (h1 : ∀ u ∈ cs.toList, u.oneCell' = true)
    (t : TypeId) (cur : Array Value) (hg : w.heap[g]? = some (.cells cur t (0, 0))) (hl : cur.size = n)
    (h : ∀ W : World, W.heap[g]? = some (.cells cs t (0, 0)) → Tch (· = g) w W → W.heap.size = w.heap.size → wpList P ops Q rest (a.put o.dst undef) W) : wpList P ops Q (o :: rest) a w :=
  wpList_store_part ty x y ho g 0 hx hw (.agg cs) hy n hi hn h1 t cur hg (by omega) (fun W hW hT hs => h W (by
    rw [show (Value.agg cs).cells.toList = cs.toList from rfl, putAt_all cur cs (hl.trans hn.symm)] at hW
    exact hW) hT hs)

/-- A new variable, of the type's zero. -/
theorem wpList_alloc {ops : Array Oper} {rest : List Oper} {o : Oper} {a : Act} {w : World} {Q : Exit → Act → World → Prop} (ty : TypeId) (ho : o.op = .alloc ty) (hw : Region.wanted o (yielded ops a.tmps) = true) (z : Value) (hz : ∀ W, (zeroValue ty).run P W = .ok z W)
    (h : ∀ (g : Nat) (W : World), W.heap[g]? = some (.cells z.cells ty (0, 0)) → g < W.heap.size → w.heap.size ≤ g → Below w.heap.size w W → wpList P ops Q rest (a.put o.dst (.pointer (some ⟨g, 0, none⟩))) W) : wpList P ops Q (o :: rest) a w := by
  refine wpList_wanted hw fun K hK => ?_
  have hrun : (execOp a.eval o).run P w = .ok (.value (.pointer (some ⟨w.heap.size, 0, none⟩))) (w.alloc (.cells z.cells ty)) := by
    unfold execOp
    simp only [ho, Instr.alloc, Sem.run_bind, hz w, Result.andThen_ok]
    rfl
  unfold Oper.wp
  rw [hrun]
  exact hK _ _ (h w.heap.size _ (heap_alloc_at _ _ rfl) (by simp) (Nat.le_refl _) ((Below.refl _ _).alloc (Nat.le_refl _) _))

/-- An operation that yields a value and leaves the world. -/
theorem wpList_val {ops : Array Oper} {rest : List Oper} {o : Oper} {a : Act} {w : World} {Q : Exit → Act → World → Prop} (hw : Region.wanted o (yielded ops a.tmps) = true) (v : Value) (hrun : (execOp a.eval o).run P w = .ok (.value v) w)
    (h : wpList P ops Q rest (a.put o.dst v) w) : wpList P ops Q (o :: rest) a w :=
  wpList_wanted hw fun K hK => by
    unfold Oper.wp
    rw [hrun]
    exact hK _ _ h
/-- An aggregate built. -/
theorem wpList_buildv {ops : Array Oper} {rest : List Oper} {o : Oper} {a : Act} {w : World} {Q : Exit → Act → World → Prop} (ty : TypeId) (ps : Array (Nat × Operand)) (ho : o.op = .build ty ps) (hw : Region.wanted o (yielded ops a.tmps) = true)
    (vs : Array (Nat × Value)) (hvs : (ps.map fun (i, x) => (i, a.eval x)) = vs) (v : Value) (hb : ∀ W, (Instr.build ty vs).run P W = .ok v W)
    (h : wpList P ops Q rest (a.put o.dst v) w) : wpList P ops Q (o :: rest) a w := by
  refine wpList_val hw v ?_ h
  unfold execOp
  simp only [ho, hvs, Sem.run_bind, hb, Result.andThen_ok, Sem.run_pure]

/-- A load of an aggregate, behind a name that the walk does not open. -/
def loadK (t : TypeId) (v : Value) : Sem Next := do pure (.value (← Instr.loadAt t v))
theorem run_loadK {w : World} {g off : Nat} {t' ty : TypeId} {cs vs : Array Value} {fr : Nat × Nat} {d : TypeDesc} (hg : w.heap[g]? = some (.cells cs t' fr))
    (hu : P.underlying ty = some d) (hd : (match d with | .struct _ | .array _ _ => true | _ => false) = true) {n : Nat} (hi : (P.info? ty).map (·.size) = some n) (hn : vs.size = n)
    (hv : ∀ j, j < vs.size → cs[off + j]? = vs[j]?) : (loadK ty (.pointer (some ⟨g, off, none⟩))).run P w = .ok (.value (.agg vs)) w := by
  subst hn
  simp only [loadK, Instr.loadAt, Instr.sureAddr, Sem.run_bind, Sem.run_pure, Result.andThen_ok, run_loadVar_part w g off t' ty cs vs fr hg hu hd hi hv]
theorem run_loadK_box {w : World} {g : Nat} {t' ty : TypeId} {cs : Array Value} {fr : Nat × Nat} {d : TypeDesc} (hg : w.heap[g]? = some (.cells cs t' fr))
    (hu : P.underlying ty = some d) (hd : (match d with | .struct _ | .array _ _ => true | _ => false) = true) {n : Nat} (hi : (P.info? ty).map (·.size) = some n) (hn : cs.size = n) :
    (loadK ty (.pointer (some ⟨g, 0, none⟩))).run P w = .ok (.value (.agg cs)) w := run_loadK hg hu hd hi hn (fun j _ => by simp)
/-- A comparison of aggregates, behind a name that the walk does not open. -/
def cmpK (op : BinOp) (t : TypeId) (x y : Operand) (a b : Value) : Sem Next := do pure (.value (← (do eqGuard op t x y a b; binOp op t a b)))

/-- A value laid into a new block of its own: the world behind it is a variable. -/
theorem wpList_box {ops : Array Oper} {rest : List Oper} {o : Oper} {a : Act} {w : World} {Q : Exit → Act → World → Prop} (hgd : o.guard = none) (ty : TypeId) (x : Operand) (ho : o.op = .box ty x) (v : Value) (hv : a.eval x = v)
    (h : ∀ (g : Nat) (W : World), W.heap[g]? = some (.cells v.cells ty (0, 0)) → g < W.heap.size → w.heap.size ≤ g → Below w.heap.size w W → wpList P ops Q rest (a.put o.dst (.pointer (some ⟨g, 0, none⟩))) W) : wpList P ops Q (o :: rest) a w := by
  subst hv
  refine wpList_plain hgd fun K hK => ?_
  have hrun : (execOp a.eval o).run P w = .ok (.value (.pointer (some ⟨w.heap.size, 0, none⟩))) (w.alloc (.cells (a.eval x).cells ty)) := by
    unfold execOp
    simp only [ho]
    rfl
  unfold Oper.wp
  rw [hrun]
  exact hK _ _ (h w.heap.size _ (heap_alloc_at _ _ rfl) (by simp) (Nat.le_refl _) ((Below.refl _ _).alloc (Nat.le_refl _) _))

section
variable {ops : Array Oper} {C : World → Prop} {Q : Act → Prop} {o : Oper} {a : Act} {rest : List Oper}
theorem wpQuiet_op (hw : Region.wanted o (yielded ops a.tmps) = true) (v : Value) (h : ∀ W, C W → o.quietAt P a C W v) (hK : wpQuiet P ops C Q rest (a.put o.dst v)) : wpQuiet P ops C Q (o :: rest) a := by
  unfold wpQuiet
  rw [if_pos hw]
  exact ⟨v, h, hK⟩

theorem wpQuiet_ex (hw : Region.wanted o (yielded ops a.tmps) = true) (h : ∃ v, (∀ W, C W → o.quietAt P a C W v) ∧ wpQuiet P ops C Q rest (a.put o.dst v)) : wpQuiet P ops C Q (o :: rest) a :=
  let ⟨v, h1, h2⟩ := h
  wpQuiet_op hw v h1 h2
theorem wp_region_class {id : Nat} {Q : Exit → Act → World → Prop} {a : Act} {w : World} {l : List Oper} (C : World → Prop) (hm : P.follows .mixedOrders = true) (hB : Region.lexB .any l.toArray = true) (hC : C w.drew)
    (h : wpQuiet P l.toArray C (fun a' => ∀ w', C w' → Q .normal a' w') l a) : (Code.region id l.toArray true).wp P Q a w :=
  wp_region_quiet (C := C) hm hB hC (by simpa using h)

theorem wpQuiet_load_box (ty : TypeId) (x : Operand) (ho : o.op = .load ty x)
    (g : Nat) (hx : a.eval x = .pointer (some ⟨g, 0, none⟩)) (hw : Region.wanted o (yielded ops a.tmps) = true) (d : TypeDesc) (hu : P.underlying ty = some d)
    (hd : (match d with | .struct _ | .array _ _ => true | _ => false) = true) (n : Nat) (hi : (P.info? ty).map (·.size) = some n) (t' : TypeId) (cs : Array Value) (fr : Nat × Nat) (hg : ∀ w, C w → w.heap[g]? = some (.cells cs t' fr)) (hn : cs.size = n)
    (h : ∀ K : Act → Prop, (∀ a, wpQuiet P ops C Q rest a → K a) → K (a.put o.dst (.agg cs))) : wpQuiet P ops C Q (o :: rest) a :=
  wpQuiet_op hw (.agg cs) (fun W hW => by
    unfold Oper.quietAt execOp
    simp only [ho, hx, Instr.loadAt, Instr.sureAddr, Sem.run_bind, Sem.run_pure, Result.andThen_ok, run_loadVar_part W g 0 t' ty cs cs fr (hg W hW) hu hd (hn ▸ hi) (fun j _ => by simp)]
    exact ⟨rfl, rfl⟩) (h _ fun _ hh => hh)

/-- One operation that yields a value, what follows behind a variable. -/
theorem wpQuiet_exK (hw : Region.wanted o (yielded ops a.tmps) = true) (h : ∀ K : Act → Prop, (∀ a, wpQuiet P ops C Q rest a → K a) → ∃ v, (∀ W, C W → o.quietAt P a C W v) ∧ K (a.put o.dst v)) : wpQuiet P ops C Q (o :: rest) a :=
  wpQuiet_ex hw (h _ fun _ hh => hh)
/-- A call, met by its contract in every world of the class. -/
theorem wpQuiet_callK (f : FuncId) (_ho : ∃ args ts, o.op = .call { callee := .value (.func f), args := args, argTypes := ts }) (hw : Region.wanted o (yielded ops a.tmps) = true) (hx : ∃ vs, (∀ W, (execOp a.eval o).run P W = .ok (.enter f vs) W) ∧ ∃ v, (∀ W, C W → Calls P f vs W fun e W' => e = .returned v ∧ C W') ∧
    ∀ K : Act → Prop, (∀ a, wpQuiet P ops C Q rest a → K a) → K (a.put o.dst v)) : wpQuiet P ops C Q (o :: rest) a :=
  let ⟨_, hrun, v, hc, h⟩ := hx
  wpQuiet_op hw v (fun W hW => by
    unfold Oper.quietAt
    rw [hrun W]
    exact ⟨rfl, hc W hW⟩) (h _ fun _ hh => hh)
/-- An operation whose guard says no. -/
theorem wpQuiet_skipK (hw : Region.wanted o (yielded ops a.tmps) = false) (h : ∀ K : Act → Prop, (∀ a, wpQuiet P ops C Q rest a → K a) → K (a.put o.dst undef)) : wpQuiet P ops C Q (o :: rest) a := by
  unfold wpQuiet
  rw [if_neg (by simp [hw])]
  exact h _ fun _ hh => hh
end
end
end Go.Cu
/- bytes.Compare's entry over two arrays of bytes that are known whole; the order of keys by it. -/
namespace Go.Cu
open Go Go.RowKit

theorem compare_first : ∀ (k l : List UInt8), k.length = l.length →
    (k = l ∧ Lib.compareBytes k l = 0) ∨ ∃ n, n < k.length ∧ (∀ j, j < n → k.getD j 0 = l.getD j 0) ∧ k.getD n 0 ≠ l.getD n 0 ∧ Lib.compareBytes k l = if (k.getD n 0).toNat < (l.getD n 0).toNat then -1 else 1
  | [], [], _ => .inl ⟨rfl, rfl⟩
  | [], _ :: _, h => by simp at h
  | _ :: _, [], h => by simp at h
  | a :: k, b :: l, h => by
    by_cases hab : a = b
    · subst hab
      rcases compare_first k l (by simpa using h) with ⟨h1, h2⟩ | ⟨n, hn, h1, h2, h3⟩
      · exact .inl ⟨by rw [h1], by simp [Lib.compareBytes, h2]⟩
      · refine .inr ⟨n + 1, by simpa using hn, fun j hj => ?_, by simpa using h2, by simpa [Lib.compareBytes] using h3⟩
        match j with
        | 0 => rfl
        | j + 1 => simpa using h1 j (by omega)
    · refine .inr ⟨0, by simp, fun j hj => absurd hj (by omega), by simpa using hab, ?_⟩
      have hne : a.toNat ≠ b.toNat := fun e => hab (UInt8.toNat_inj.1 e)
      simp only [Lib.compareBytes, UInt8.lt_iff_toNat_lt, List.getD_cons_zero]
      by_cases h1 : a.toNat < b.toNat
      · simp [h1]
      · have h2 : b.toNat < a.toNat := by omega
        simp [h1, h2]

/-- The order of keys: -1, 0, 1. -/
def ordB (k l : List UInt8) : Int := if k = l then 0 else if ltB k l then -1 else 1
theorem ordB_compare {k l : List UInt8} (hk : k.length = 32) (hl : l.length = 32) : Lib.compareBytes k l = ordB k l := by
  unfold ordB
  rcases compare_first k l (by omega) with ⟨h1, h2⟩ | ⟨n, hn, h1, h2, h3⟩
  · rw [if_pos h1, h2]
  · have hne : k ≠ l := fun e => h2 (by rw [e])
    rw [if_neg hne, h3, ltB_of_byte n (by omega) h1 h2]
    simp
theorem ordB_neg (k l : List UInt8) : decide (ordB k l < 0) = ltB k l := by
  unfold ordB
  by_cases h : k = l
  · subst h; simp [ltB_self]
  · rw [if_neg h]
    cases ltB k l <;> simp

theorem bytesOf_bv (l : List UInt8) : Lib.bytesOf (l.map fun b => (b.toNat : Int)) = l := by
  unfold Lib.bytesOf
  rw [List.map_map]
  conv => rhs; rw [← List.map_id l]
  refine List.map_congr_left fun b _ => ?_
  simp

theorem run_loadBytes_bv {P : Program} (w : World) (g : Nat) (t : TypeId) (fr : Nat × Nat) (l : List UInt8) (hg : w.heap[g]? = some (.cells (bv l) t fr)) :
    (Extern.Bytes.loadBytes ⟨g, 0, none⟩ l.length .empty).run P w = .ok ⟨l.toArray⟩ w := by
  have h := Lib.run_loadBytesX (P := P) w (l.map fun b => (b.toNat : Int)) ⟨g, 0, none⟩ .empty (fun j x hj => by
    have hadd : (⟨g, 0, none⟩ : Addr).add j = ⟨g, j, none⟩ := by unfold Addr.add; split <;> simp_all
    rw [hadd, cell_of_row w g j (bv l) t fr hg]
    simp only [bv, List.getElem?_toArray, List.getElem?_map] at hj ⊢
    cases hl : l[j]? with
    | none => simp [hl] at hj
    | some u => simp [hl] at hj ⊢; exact hj)
  rw [bytesOf_bv, List.length_map] at h
  rw [h]
  congr 1
  apply ByteArray.ext
  show (#[] : Array UInt8) ++ l.toArray = l.toArray
  simp

theorem run_compare_bv {P : Program} (w : World) (g g' : Nat) (t t' : TypeId) (fr fr' : Nat × Nat) (k l : List UInt8) (c c' : Nat) (hg : w.heap[g]? = some (.cells (bv k) t fr)) (hg' : w.heap[g']? = some (.cells (bv l) t' fr')) :
    (Extern.BytealgCompare.compare #[.slice (some ⟨g, 0, none⟩) k.length c, .slice (some ⟨g', 0, none⟩) l.length c']).run P w = .ok (.int .i64 (Lib.compareBytes k l)) w := by
  change Sem.run P (do pure (goInt (Extern.BytealgCompare.cmp (← Extern.Bytes.bytesOf (.slice (some ⟨g, 0, none⟩) k.length c)) (← Extern.Bytes.bytesOf (.slice (some ⟨g', 0, none⟩) l.length c'))))) w = _
  simp only [Extern.Bytes.bytesOf, Sem.run_bind, run_loadBytes_bv w g t fr k hg, run_loadBytes_bv w g' t' fr' l hg', Result.andThen_ok, Sem.run_pure, Lib.cmp_eq, goInt]
theorem xor_bit (a b j : Nat) : ((a ^^^ b) / 2 ^ j % 2 = 0 ↔ a / 2 ^ j % 2 = b / 2 ^ j % 2) := by
  have h := Nat.testBit_xor a b j
  rw [Nat.testBit_eq_decide_div_mod_eq, Nat.testBit_eq_decide_div_mod_eq, Nat.testBit_eq_decide_div_mod_eq] at h
  have ha : a / 2 ^ j % 2 < 2 := Nat.mod_lt _ (by decide)
  have hb : b / 2 ^ j % 2 < 2 := Nat.mod_lt _ (by decide)
  have hx : (a ^^^ b) / 2 ^ j % 2 < 2 := Nat.mod_lt _ (by decide)
  generalize (a ^^^ b) / 2 ^ j % 2 = x at *
  generalize a / 2 ^ j % 2 = u at *
  generalize b / 2 ^ j % 2 = v at *
  match x, u, v, hx, ha, hb with
  | 0, 0, 0, _, _, _ => simp
  | 0, 0, 1, _, _, _ => simp at h
  | 0, 1, 0, _, _, _ => simp at h
  | 0, 1, 1, _, _, _ => simp
  | 1, 0, 0, _, _, _ => simp at h
  | 1, 0, 1, _, _, _ => simp
  | 1, 1, 0, _, _, _ => simp
  | 1, 1, 1, _, _, _ => simp at h

theorem len_bits : ∀ x : Fin 256, x.val ≠ 0 → 1 ≤ Lib.bitLen x.val ∧ Lib.bitLen x.val ≤ 8 ∧ (∀ q : Fin 8, q.val < 8 - Lib.bitLen x.val → x.val / 2 ^ (7 - q.val) % 2 = 0) ∧ x.val / 2 ^ (7 - (8 - Lib.bitLen x.val)) % 2 ≠ 0 := by decide +kernel

theorem bt_nat (l : List UInt8) (i : Nat) : (bt l i).toNat = (l.getD i 0).toNat := by simp [bt]
theorem cm_exit {k l : List UInt8} {n : Nat} (hn : n < 32) (heq : ∀ j, j < n → k.getD j 0 = l.getD j 0) (hne : bt k n ≠ bt l n) :
    0 ≤ bits .xor .u8 (bt k n) (bt l n) ∧ bits .xor .u8 (bt k n) (bt l n) ≤ 255 ∧ 8 * (n : Int) + (8 - (Lib.bitLen (bits .xor .u8 (bt k n) (bt l n)).toNat : Int)) = (cm k l : Int) := by
  rw [u8_xor _ _ (bt_ge k n) (bt_lt k n) (bt_ge l n) (bt_lt l n), bt_nat, bt_nat, Int.toNat_natCast]
  have ha := UInt8.toNat_lt (k.getD n 0)
  have hb := UInt8.toNat_lt (l.getD n 0)
  have hd : (k.getD n 0).toNat ≠ (l.getD n 0).toNat := fun e => hne (by unfold bt; rw [e])
  have hx : (k.getD n 0).toNat ^^^ (l.getD n 0).toNat < 256 := Nat.xor_lt_two_pow (n := 8) ha hb
  have h0 : (k.getD n 0).toNat ^^^ (l.getD n 0).toNat ≠ 0 := fun e => hd (Nat.eq_of_testBit_eq fun i => by
    have := Nat.testBit_xor (k.getD n 0).toNat (l.getD n 0).toNat i
    rw [e, Nat.zero_testBit] at this
    revert this
    cases (k.getD n 0).toNat.testBit i <;> cases (l.getD n 0).toNat.testBit i <;> simp)
  obtain ⟨h1, h8, hq, hp⟩ := len_bits ⟨_, hx⟩ h0
  simp only at h1 h8 hq hp
  refine ⟨by omega, by omega, ?_⟩
  have hc : IsCm k l (8 * n + (8 - Lib.bitLen ((k.getD n 0).toNat ^^^ (l.getD n 0).toNat))) :=
    isCm_of_byte n _ hn (by omega) heq (fun q hql => (xor_bit _ _ _).1 (hq ⟨q, by omega⟩ hql)) (fun e => hp ((xor_bit _ _ _).2 e))
  rw [← hc.eq]
  omega
theorem cm_all {k l : List UInt8} (heq : ∀ j, j < 32 → k.getD j 0 = l.getD j 0) : cm k l = 256 :=
  ((show IsCm k l 256 from ⟨Nat.le_refl _, fun j hj => by unfold bitN; rw [heq _ (by omega)], fun h => absurd h (by decide)⟩).eq).symm
theorem bt_inj {k l : List UInt8} {n : Nat} (h : bt k n = bt l n) : k.getD n 0 = l.getD n 0 := by
  unfold bt at h
  exact UInt8.toNat_inj.1 (by omega)

theorem run_eqItems_bv {P : Program} {e : TypeId} (he : ByteElem P e) (hc : P.cellsOf e = 1) (d : Nat) (k l : List UInt8) (w : World) :
    ∀ is : List Nat, (∀ i ∈ is, i < k.length ∧ i < l.length) → (Op.eqItems (d + 1) e (P.cellsOf e) (bv k) (bv l) is).run P w = .ok (is.all fun i => bt k i == bt l i) w
  | [], _ => by simp [Op.eqItems]
  | i :: is, h => by
    have hi := h i (by simp)
    have ih := run_eqItems_bv he hc d k l w is (fun j hj => h j (by simp [hj]))
    simp only [Op.eqItems, Sem.run_bind, hc, Nat.mul_one, run_part_bv he k i hi.1, run_part_bv he l i hi.2, Result.andThen_ok, run_equalIn_int w d e _ _ _ _ he.und]
    rw [hc] at ih
    cases hb : bt k i == bt l i
    · simp [hb]
    · simp [hb, ih]

/-- Two arrays of bytes compared. -/
theorem run_eql_bv {P : Program} {t e : TypeId} {n : Nat} (ht : P.underlying t = some (.array n e)) (he : ByteElem P e) (hc : P.cellsOf e = 1) (k l : List UInt8) (hk : k.length = n) (hl : l.length = n) (w : World) :
    (binOp .eql t (.agg (bv k)) (.agg (bv l))).run P w = .ok (.bool (decide (k = l))) w := by
  cases hq : P.info? e with
  | none => have := he.size; simp [hq] at this
  | some i =>
    have h := run_eqItems_bv he hc 9998 k l w (List.range n) (fun i hi => by simp only [List.mem_range] at hi; omega)
    rw [run_eql_struct, run_equalIn_array w 9999 (bv k) (bv l) ht hq, h]
    simp only [Result.andThen_ok]
    congr 2
    rw [Bool.eq_iff_iff]
    simp only [List.all_eq_true, List.mem_range, beq_iff_eq, decide_eq_true_eq]
    constructor
    · intro h
      refine List.ext_getElem (by omega) fun j h1 h2 => ?_
      have := bt_inj (h j (by omega))
      simpa [List.getD_eq_getElem?_getD, h1, h2] using this
    · rintro rfl j _
      rfl
theorem run_neq_bv {P : Program} {t e : TypeId} {n : Nat} (ht : P.underlying t = some (.array n e)) (he : ByteElem P e) (hc : P.cellsOf e = 1) (k l : List UInt8) (hk : k.length = n) (hl : l.length = n) (w : World) :
    (binOp .neq t (.agg (bv k)) (.agg (bv l))).run P w = .ok (.bool (!decide (k = l))) w := by
  have h := run_eql_bv ht he hc k l hk hl w
  rw [run_eql_struct] at h
  rw [run_neq_struct]
  generalize (Op.equalIn 10000 t (.agg (bv k)) (.agg (bv l))).run P w = r at *
  cases r with
  | ok b w' =>
    simp only [Result.andThen_ok, Result.ok.injEq, Value.bool.injEq] at h ⊢
    exact ⟨by rw [h.1], h.2⟩
  | halt x w' => simp [Result.andThen] at h

section
variable {P : Program} {ops : Array Oper} {o : Oper} {a : Act} {t e : TypeId} {n : Nat}
theorem exec_eql_bv (hm : P.eqGuardType P.depth t = false) (t' : TypeId) (x y : Operand) (ho : o.op = .binOp .eql t x y t') (k l : List UInt8) (hx : a.eval x = .agg (bv k)) (hy : a.eval y = .agg (bv l)) (ht : P.underlying t = some (.array n e)) (he : ByteElem P e) (hc : P.cellsOf e = 1) (hk : k.length = n) (hl : l.length = n) (w : World) :
    (execOp a.eval o).run P w = .ok (.value (.bool (decide (k = l)))) w := by
  unfold execOp
  simp only [ho, hx, hy, Sem.run_bind, run_eqGuard_agg w _ _ _ _ _ _ hm, Result.andThen_ok, run_eql_bv ht he hc k l hk hl, Sem.run_pure]
theorem exec_neq_bv (hm : P.eqGuardType P.depth t = false) (t' : TypeId) (x y : Operand) (ho : o.op = .binOp .neq t x y t') (k l : List UInt8) (hx : a.eval x = .agg (bv k)) (hy : a.eval y = .agg (bv l)) (ht : P.underlying t = some (.array n e)) (he : ByteElem P e) (hc : P.cellsOf e = 1) (hk : k.length = n) (hl : l.length = n) (w : World) :
    (execOp a.eval o).run P w = .ok (.value (.bool (!decide (k = l)))) w := by
  unfold execOp
  simp only [ho, hx, hy, Sem.run_bind, run_eqGuard_agg w _ _ _ _ _ _ hm, Result.andThen_ok, run_neq_bv ht he hc k l hk hl, Sem.run_pure]
theorem wpList_eql_bv {rest : List Oper} {w : World} {Q : Exit → Act → World → Prop} (t' : TypeId) (x y : Operand) (ho : o.op = .binOp .eql t x y t') (k l : List UInt8) (hx : a.eval x = .agg (bv k)) (hy : a.eval y = .agg (bv l)) (hw : Region.wanted o (yielded ops a.tmps) = true)
    (hm : P.eqGuardType P.depth t = false) (ht : P.underlying t = some (.array n e)) (he : ByteElem P e) (hc : P.cellsOf e = 1) (hk : k.length = n) (hl : l.length = n) (h : wpList P ops Q rest (a.put o.dst (.bool (decide (k = l)))) w) : wpList P ops Q (o :: rest) a w :=
  wpList_val hw _ (exec_eql_bv hm t' x y ho k l hx hy ht he hc hk hl w) h
theorem wpList_neq_bv {rest : List Oper} {w : World} {Q : Exit → Act → World → Prop} (t' : TypeId) (x y : Operand) (ho : o.op = .binOp .neq t x y t') (k l : List UInt8) (hx : a.eval x = .agg (bv k)) (hy : a.eval y = .agg (bv l)) (hw : Region.wanted o (yielded ops a.tmps) = true)
    (hm : P.eqGuardType P.depth t = false) (ht : P.underlying t = some (.array n e)) (he : ByteElem P e) (hc : P.cellsOf e = 1) (hk : k.length = n) (hl : l.length = n) (h : wpList P ops Q rest (a.put o.dst (.bool (!decide (k = l)))) w) : wpList P ops Q (o :: rest) a w :=
  wpList_val hw _ (exec_neq_bv hm t' x y ho k l hx hy ht he hc hk hl w) h
theorem wpQuiet_eql_bv {rest : List Oper} {C : World → Prop} {Q : Act → Prop} (t' : TypeId) (x y : Operand) (ho : o.op = .binOp .eql t x y t') (k l : List UInt8) (hx : a.eval x = .agg (bv k)) (hy : a.eval y = .agg (bv l)) (hw : Region.wanted o (yielded ops a.tmps) = true)
    (hm : P.eqGuardType P.depth t = false) (ht : P.underlying t = some (.array n e)) (he : ByteElem P e) (hc : P.cellsOf e = 1) (hk : k.length = n) (hl : l.length = n)
    (h : ∀ K : Act → Prop, (∀ a, wpQuiet P ops C Q rest a → K a) → K (a.put o.dst (.bool (decide (k = l))))) : wpQuiet P ops C Q (o :: rest) a :=
  wpQuiet_op hw _ (fun W _ => by
    unfold Oper.quietAt
    rw [exec_eql_bv hm t' x y ho k l hx hy ht he hc hk hl W]
    exact ⟨rfl, rfl⟩) (h _ fun _ hh => hh)
end

theorem run_cmpK_eql {P : Program} {t e : TypeId} {n : Nat} (hm : P.eqGuardType P.depth t = false) (ht : P.underlying t = some (.array n e)) (he : ByteElem P e) (hc : P.cellsOf e = 1) {k l : List UInt8} (hk : k.length = n) (hl : l.length = n) (x y : Operand) (w : World) :
    (cmpK .eql t x y (.agg (bv k)) (.agg (bv l))).run P w = .ok (.value (.bool (decide (k = l)))) w := by
  simp only [cmpK, Sem.run_bind, run_eqGuard_agg w _ _ _ _ _ _ hm, Result.andThen_ok, run_eql_bv ht he hc k l hk hl, Sem.run_pure]
theorem run_cmpK_neq {P : Program} {t e : TypeId} {n : Nat} (hm : P.eqGuardType P.depth t = false) (ht : P.underlying t = some (.array n e)) (he : ByteElem P e) (hc : P.cellsOf e = 1) {k l : List UInt8} (hk : k.length = n) (hl : l.length = n) (x y : Operand) (w : World) :
    (cmpK .neq t x y (.agg (bv k)) (.agg (bv l))).run P w = .ok (.value (.bool (!decide (k = l)))) w := by
  simp only [cmpK, Sem.run_bind, run_eqGuard_agg w _ _ _ _ _ _ hm, Result.andThen_ok, run_neq_bv ht he hc k l hk hl, Sem.run_pure]
end Go.Cu
/- What lies in memory side by side: each thing in blocks of its own, none of them the caller's. -/
namespace Go.Cu
open Go Go.RowKit
/-- Something that lies in blocks of its own: it speaks of these alone. -/
structure Atm where
  in_ : (Nat → Prop) → World → Prop
  keep : ∀ {F : Nat → Prop} {W W' : World}, in_ F W → (∀ g, g < W.heap.size → F g → W'.heap[g]? = W.heap[g]?) → in_ F W'
  mono : ∀ {F G : Nat → Prop} {W : World}, in_ F W → (∀ g, g < W.heap.size → F g → G g) → in_ G W

def Star : List Atm → (Nat → Prop) → World → Prop
  | [], _, _ => True
  | a :: L, F, W => ∃ G : Nat → Prop, a.in_ (fun g => F g ∧ G g) W ∧ Star L (fun g => F g ∧ ¬ G g) W
theorem Star.keep {W W' : World} : ∀ {L : List Atm} {F : Nat → Prop}, Star L F W → (∀ g, g < W.heap.size → F g → W'.heap[g]? = W.heap[g]?) → Star L F W'
  | [], _, _, _ => trivial
  | a :: _, _, ⟨G, h, r⟩, hk => ⟨G, a.keep h fun g hg hf => hk g hg hf.1, Star.keep r fun g hg hf => hk g hg hf.1⟩
theorem Star.mono {W : World} : ∀ {L : List Atm} {F F' : Nat → Prop}, Star L F W → (∀ g, g < W.heap.size → F g → F' g) → Star L F' W
  | [], _, _, _, _ => trivial
  | a :: _, _, _, ⟨G, h, r⟩, hk => ⟨G, a.mono h fun g hg hf => ⟨hk g hg hf.1, hf.2⟩, Star.mono r fun g hg hf => ⟨hk g hg hf.1, hf.2⟩⟩
theorem Star.swap {W : World} {a b : Atm} {L : List Atm} {F : Nat → Prop} : Star (a :: b :: L) F W → Star (b :: a :: L) F W := by
  rintro ⟨G, ha, H, hb, r⟩
  refine ⟨fun g => ¬ G g ∧ H g, b.mono hb fun g _ hf => ⟨hf.1.1, hf.1.2, hf.2⟩, G, a.mono ha fun g _ hf => ⟨⟨hf.1, fun h => h.1 hf.2⟩, hf.2⟩, r.mono fun g _ hf => ⟨⟨hf.1.1, fun h => hf.2 h.2⟩, hf.1.2⟩⟩
theorem Star.perm {W : World} {L M : List Atm} (h : L.Perm M) : ∀ {F : Nat → Prop}, Star L F W → Star M F W := by
  induction h with
  | nil => exact id
  | cons a _ ih => rintro F ⟨G, h, r⟩; exact ⟨G, h, ih r⟩
  | swap a b l => exact Star.swap
  | trans _ _ i j => exact fun h => j (i h)

/-- What the caller had is as it was; the things of L lie in blocks that came since. -/
structure St (W0 : World) (L : List Atm) (W : World) : Prop where
  below : Below W0.heap.size W0 W
  star : Star L (fun g => W0.heap.size ≤ g) W
section
variable {W0 W W' : World} {L M : List Atm} {a b c d e a' : Atm}
theorem St.start (W0 : World) : St W0 [] W0 := ⟨Below.refl _ _, trivial⟩
theorem St.size (h : St W0 L W) : W0.heap.size ≤ W.heap.size := h.below.size
theorem St.perm (h : St W0 L W) (p : L.Perm M) : St W0 M W := ⟨h.below, h.star.perm p⟩
theorem St.at2 (h : St W0 (a :: b :: L) W) : St W0 (b :: a :: L) W := ⟨h.below, h.star.swap⟩
theorem St.at3 (h : St W0 (a :: b :: c :: L) W) : St W0 (c :: a :: b :: L) W := h.perm (((List.Perm.swap c b L).cons a).trans (List.Perm.swap c a (b :: L)))
theorem St.back3 (h : St W0 (c :: a :: b :: L) W) : St W0 (a :: b :: c :: L) W := h.perm (((List.Perm.swap a c (b :: L))).trans ((List.Perm.swap b c L).cons a))
theorem St.at4 (h : St W0 (a :: b :: c :: d :: L) W) : St W0 (d :: a :: b :: c :: L) W := by
  obtain ⟨hb, G, ha, r⟩ := h
  exact (show St W0 (a :: d :: b :: c :: L) W from ⟨hb, G, ha, r.perm (((List.Perm.swap d c L).cons b).trans (List.Perm.swap d b (c :: L)))⟩).at2
theorem St.back4 (h : St W0 (d :: a :: b :: c :: L) W) : St W0 (a :: b :: c :: d :: L) W := by
  obtain ⟨hb, G, ha, r⟩ := h.at2
  exact ⟨hb, G, ha, r.perm (((List.Perm.swap b d (c :: L))).trans ((List.Perm.swap c d L).cons b))⟩
/-- The first thing: its blocks; what may become of it, with all else as it was. -/
theorem St.first (h : St W0 (a :: L) W) : ∃ F : Nat → Prop, a.in_ F W ∧ (∀ g, F g → W0.heap.size ≤ g ∧ g < W.heap.size) ∧
    ∀ (a' : Atm) (W' : World), a'.in_ (fun g => F g ∨ W.heap.size ≤ g) W' → Tch F W W' → St W0 (a' :: L) W' := by
  obtain ⟨hb, G, ha, r⟩ := h
  refine ⟨fun g => (W0.heap.size ≤ g ∧ G g) ∧ g < W.heap.size, a.mono ha fun g hg hf => ⟨hf, hg⟩, fun g hg => ⟨hg.1.1, hg.2⟩, fun a' W' ha' ht => ⟨hb.trans (ht.below hb.size fun i hi => hi.1.1), fun g => (G g ∧ g < W.heap.size) ∨ W.heap.size ≤ g, ?_, ?_⟩⟩
  · refine a'.mono ha' fun g _ hf => ?_
    have := hb.size
    rcases hf with hf | hf
    · exact ⟨hf.1.1, .inl ⟨hf.1.2, hf.2⟩⟩
    · exact ⟨by omega, .inr hf⟩
  · refine Star.mono (Star.keep (r.mono (F' := fun g => (W0.heap.size ≤ g ∧ ¬ G g) ∧ g < W.heap.size) fun g hg hf => ⟨hf, hg⟩) fun g hg hf => ht.block g hg fun hx => hf.1.2 hx.1.2) fun g _ hf => ⟨hf.1.1, ?_⟩
    rintro (h | h)
    · exact hf.1.2 h.1
    · omega
theorem St.turn (h : St W0 L W) (hb : Below W.heap.size W W') : St W0 L W' :=
  ⟨h.below.trans (hb.mono h.size), (Star.keep (h.star.mono (F' := fun g => W0.heap.size ≤ g ∧ g < W.heap.size) fun _ hg hf => ⟨hf, hg⟩) fun g _ hf => hb.block g hf.2).mono fun _ _ hf => hf.1⟩
theorem St.push (h : St W0 L W) (hb : Below W.heap.size W W') (ha : a.in_ (fun g => W.heap.size ≤ g) W') : St W0 (a :: L) W' := by
  have h' : Star L (fun g => W0.heap.size ≤ g ∧ g < W.heap.size) W' := Star.keep (h.star.mono (F' := fun g => W0.heap.size ≤ g ∧ g < W.heap.size) fun _ hg hf => ⟨hf, hg⟩) fun g hg hf => hb.block g hf.2
  have hs := h.size
  exact ⟨h.below.trans (hb.mono h.size), fun g => W.heap.size ≤ g, a.mono ha fun g _ hf => ⟨by omega, hf⟩, h'.mono fun g _ hf => ⟨hf.1, by omega⟩⟩
theorem St.drop (h : St W0 (a :: L) W) : St W0 L W := by
  obtain ⟨hb, G, ha, r⟩ := h
  exact ⟨hb, r.mono fun _ _ hf => hf.1⟩
theorem St.drop2 (h : St W0 (a :: b :: L) W) : St W0 (a :: L) W := h.at2.drop
theorem St.drop3 (h : St W0 (a :: b :: c :: L) W) : St W0 (a :: b :: L) W := h.at3.drop
end

/-- A block that is known whole. -/
def Blk (g : Nat) (cs : Array Value) (t : TypeId) : Atm :=
  ⟨fun F W => F g ∧ W.heap[g]? = some (.cells cs t (0, 0)), fun {F W W'} h hk => ⟨h.1, (hk g (by
      rcases Nat.lt_or_ge g W.heap.size with h1 | h1
      · exact h1
      · have := h.2; rw [Array.getElem?_eq_none h1] at this; cases this) h.1).trans h.2⟩, fun {F G W} h hm => ⟨hm g (by
      rcases Nat.lt_or_ge g W.heap.size with h1 | h1
      · exact h1
      · have := h.2; rw [Array.getElem?_eq_none h1] at this; cases this) h.1, h.2⟩⟩
theorem heap_lt {W : World} {g : Nat} {o : Obj} (h : W.heap[g]? = some o) : g < W.heap.size := by
  rcases Nat.lt_or_ge g W.heap.size with h1 | h1
  · exact h1
  · rw [Array.getElem?_eq_none h1] at h; cases h
/-- A slice that owns its row: v's n elements of s cells each are xs. -/
def Row (v : Value) (e s n : Nat) (xs : List Value) : Atm :=
  ⟨fun F W => (∀ g, v.ownBlock = some g → F g) ∧ W.ownsRow 0 e s v n xs, fun {F W W'} h hk => ⟨h.1, h.2.1, by
      rcases h.2.2 with h' | ⟨g, c, cur, rfl, hb, hh, r⟩
      · exact .inl h'
      · exact .inr ⟨g, c, cur, rfl, hb, (hk g (heap_lt hh) (h.1 g (by simp [Value.ownBlock]))).trans hh, r⟩⟩, fun {F G W} h hm => ⟨fun g hg => hm g (by
      rcases h.2.2 with ⟨rfl, _⟩ | ⟨g', c, cur, rfl, _, hh, _⟩
      · simp [Value.ownBlock] at hg
      · have : g' = g := by simpa [Value.ownBlock] using hg
        subst this
        exact heap_lt hh) (h.1 g hg), h.2⟩⟩
section
variable {W0 W W' : World} {L : List Atm} {g : Nat} {cs : Array Value} {t : TypeId}
theorem St.blk (h : St W0 (Blk g cs t :: L) W) : W.heap[g]? = some (.cells cs t (0, 0)) := by
  obtain ⟨F, ha, _, _⟩ := h.first
  exact ha.2
theorem St.blk_ge (h : St W0 (Blk g cs t :: L) W) : W0.heap.size ≤ g := by
  obtain ⟨F, ha, hf, _⟩ := h.first
  exact (hf _ ha.1).1
theorem St.newBlk (h : St W0 L W) (hb : Below W.heap.size W W') (hg : W.heap.size ≤ g) (hc : W'.heap[g]? = some (.cells cs t (0, 0))) : St W0 (Blk g cs t :: L) W' := h.push hb ⟨hg, hc⟩
theorem St.put {cs' : Array Value} {t' : TypeId} (h : St W0 (Blk g cs t :: L) W) (hc : W'.heap[g]? = some (.cells cs' t' (0, 0))) (ht : Tch (· = g) W W') : St W0 (Blk g cs' t' :: L) W' := by
  obtain ⟨F, ha, _, hr⟩ := h.first
  exact hr _ _ ⟨.inl ha.1, hc⟩ (ht.mono fun i _ e => by subst e; exact ha.1)
theorem St.setCell (h : St W0 (Blk g cs t :: L) W) (i : Nat) (v : Value) : St W0 (Blk g (cs.setIfInBounds i v) t :: L) (W.setCell ⟨g, i, none⟩ v) :=
  h.put (heap_setCell_same W g i cs t v h.blk) ((Tch.refl (· = g) W).setCell rfl v)
theorem St.row {v : Value} {e s n : Nat} {xs : List Value} (h : St W0 (Row v e s n xs :: L) W) : W.ownsRow 0 e s v n xs := by
  obtain ⟨F, ha, _, _⟩ := h.first
  exact ha.2
/-- Two things lie apart. -/
theorem St.blk_ne {g' : Nat} {cs' : Array Value} {t' : TypeId} (h : St W0 (Blk g cs t :: Blk g' cs' t' :: L) W) : g ≠ g' := by
  obtain ⟨_, G, ha, H, hb, _⟩ := h
  rintro rfl
  exact hb.1.1.2 ha.1.2
end
end Go.Cu
/- Lists of chunks of one length, as cells one behind the other; blocks of bytes in a row. -/
namespace Go.Cu
open Go Go.RowKit
section
variable {α β : Type} {f : α → List β} {n : Nat}

theorem fm_len : ∀ (l : List α), (∀ x ∈ l, (f x).length = n) → (l.flatMap f).length = l.length * n
  | [], _ => by simp
  | x :: l, h => by
    have := fm_len l (fun y hy => h y (by simp [hy]))
    simp only [List.flatMap_cons, List.length_append, this, h x (by simp), List.length_cons, Nat.succ_mul]
    omega
theorem fm_get : ∀ (l : List α) (i j : Nat) (x : α), (∀ x ∈ l, (f x).length = n) → l[i]? = some x → j < n → (l.flatMap f)[i * n + j]? = (f x)[j]?
  | [], _, _, _, _, hi, _ => by simp at hi
  | y :: l, 0, j, x, h, hi, hj => by
    have e : y = x := by simpa using hi
    subst e
    rw [List.flatMap_cons, List.getElem?_append_left (by rw [h y (by simp)]; omega)]
    simp
  | y :: l, i + 1, j, x, h, hi, hj => by
    have hy := h y (by simp)
    rw [List.flatMap_cons, List.getElem?_append_right (by rw [hy, Nat.succ_mul]; omega), hy, show (i + 1) * n + j - n = i * n + j by rw [Nat.succ_mul]; omega]
    exact fm_get l i j x (fun z hz => h z (by simp [hz])) (by simpa using hi) hj
theorem fm_put : ∀ (l : List α) (i : Nat) (y : α), (∀ x ∈ l, (f x).length = n) → i < l.length →
    (l.flatMap f).take (i * n) ++ f y ++ (l.flatMap f).drop (i * n + n) = (l.set i y).flatMap f
  | [], _, _, _, hi => by simp at hi
  | x :: l, 0, y, h, _ => by
    have hx := h x (by simp)
    rw [List.flatMap_cons, List.set_cons_zero, List.flatMap_cons, Nat.zero_mul, Nat.zero_add, List.take_zero, List.nil_append, List.drop_append_of_le_length (by omega), List.drop_of_length_le (by omega), List.nil_append]
  | x :: l, i + 1, y, h, hi => by
    have hx := h x (by simp)
    have ih := fm_put l i y (fun z hz => h z (by simp [hz])) (by simpa using hi)
    rw [List.flatMap_cons, List.set_cons_succ, List.flatMap_cons, ← ih, show (i + 1) * n = (f x).length + i * n by rw [Nat.succ_mul, hx]; omega, List.take_length_add_append,
      show (f x).length + i * n + n = (f x).length + (i * n + n) by omega, List.drop_length_add_append]
    simp
end

/-- Bytes as a list of cells. -/
def bvL (l : List UInt8) : List Value := l.map fun b => Value.int .u8 b.toNat
theorem bvL_len (l : List UInt8) : (bvL l).length = l.length := by simp [bvL]
theorem bv_eq (l : List UInt8) : bv l = (bvL l).toArray := rfl
theorem bvL_one (l : List UInt8) : ∀ u ∈ bvL l, u.oneCell' = true := by
  intro u hu
  simp only [bvL, List.mem_map] at hu
  obtain ⟨b, _, rfl⟩ := hu
  rfl

abbrev Bk := List UInt8
/-- Blocks of bytes, one behind the other. -/
def flat (L : List Bk) : Array Value := (L.flatMap bvL).toArray
def Full (L : List Bk) : Prop := ∀ b ∈ L, b.length = 128
theorem Full.get {L : List Bk} (h : Full L) {i : Nat} {b : Bk} (hi : L[i]? = some b) : b.length = 128 := h b (List.mem_of_getElem? hi)
theorem Full.set {L : List Bk} (h : Full L) {i : Nat} {b : Bk} (hb : b.length = 128) : Full (L.set i b) := by
  intro x hx
  rcases List.mem_or_eq_of_mem_set hx with h1 | h1
  · exact h x h1
  · subst h1; exact hb
theorem Full.len {L : List Bk} (h : Full L) : ∀ x ∈ L, (bvL x).length = 128 := fun x hx => (bvL_len x).trans (h x hx)
theorem flat_size {L : List Bk} (h : Full L) : (flat L).size = L.length * 128 := by
  unfold flat
  rw [List.size_toArray]
  exact fm_len L h.len
theorem flat_get {L : List Bk} (h : Full L) {i : Nat} {b : Bk} (hi : L[i]? = some b) : ∀ j, j < (bv b).size → (flat L)[i * 128 + j]? = (bv b)[j]? := by
  intro j hj
  rw [bv_size, h.get hi] at hj
  unfold flat
  rw [bv_eq, List.getElem?_toArray, List.getElem?_toArray]
  exact fm_get L i j b h.len hi hj
theorem flat_put {L : List Bk} (h : Full L) {i : Nat} (hi : i < L.length) {b : Bk} (hb : b.length = 128) : putAt (flat L) (i * 128) (bvL b) = flat (L.set i b) := by
  unfold putAt flat
  rw [bvL_len, hb]
  congr 1
  exact fm_put L i b h.len hi

/-- A write that doesn't last yet: a place and a block. -/
def putL (p : Nat × Bk) : List Value := .int .i64 p.1 :: bvL p.2
def waitL (l : List (Nat × Bk)) : List Value := l.flatMap putL
def FullW (l : List (Nat × Bk)) : Prop := ∀ p ∈ l, p.2.length = 128
theorem FullW.len {l : List (Nat × Bk)} (h : FullW l) : ∀ x ∈ l, (putL x).length = 129 := fun x hx => by simp [putL, bvL_len, h x hx]
theorem waitL_len {l : List (Nat × Bk)} (h : FullW l) : (waitL l).length = l.length * 129 := fm_len l h.len
theorem waitL_get {l : List (Nat × Bk)} (h : FullW l) {i : Nat} {p : Nat × Bk} (hi : l[i]? = some p) : ∀ j, j < 129 → (waitL l)[i * 129 + j]? = (putL p)[j]? :=
  fun j hj => fm_get l i j p h.len hi hj
theorem waitL_snoc (l : List (Nat × Bk)) (p : Nat × Bk) : waitL (l ++ [p]) = waitL l ++ putL p := by simp [waitL]
theorem putL_one (p : Nat × Bk) : ∀ u ∈ putL p, u.oneCell' = true := by
  intro u hu
  rcases List.mem_cons.1 hu with rfl | h
  · rfl
  · exact bvL_one _ u h
theorem putL_len {p : Nat × Bk} (h : p.2.length = 128) : (putL p).length = 129 := by simp [putL, bvL_len, h]
theorem putL_size {p : Nat × Bk} (h : p.2.length = 128) : (putL p).toArray.size = 129 := by simp [putL, bvL_len, h]
end Go.Cu
/- Aggregates and one-element slices built out of values that are variables; append onto an own row, with the place of the new row. -/
namespace Go.Cu
open Go Go.RowKit

theorem list_put_put (l : List Value) (o : Nat) (v : Value) (vs : List Value) (h : o + (vs.length + 1) ≤ l.length) :
    (l.set o v).take (o + 1) ++ vs ++ (l.set o v).drop (o + 1 + vs.length) = l.take o ++ (v :: vs) ++ l.drop (o + (vs.length + 1)) := by
  have h1 : (l.set o v).take (o + 1) = l.take o ++ [v] := by
    rw [List.take_add_one, List.take_set_of_le (Nat.le_refl o)]
    simp [show o < l.length by omega]
  have h2 : (l.set o v).drop (o + 1 + vs.length) = l.drop (o + (vs.length + 1)) := by
    rw [List.drop_set_of_lt (by omega)]
    congr 1
    omega
  rw [h1, h2]
  simp
theorem fold_put : ∀ (vs : List Value) (k off : Nat) (cs : Array Value), off + k + vs.length ≤ cs.size →
    (vs.zipIdx k).foldl (fun cs (x : Value × Nat) => cs.setIfInBounds (off + x.2) x.1) cs = putAt cs (off + k) vs
  | [], k, off, cs, _ => by simp [putAt]
  | v :: vs, k, off, cs, h => by
    simp only [List.length_cons] at h
    rw [List.zipIdx_cons, List.foldl_cons, fold_put vs (k + 1) off _ (by simp; omega)]
    unfold putAt
    congr 1
    rw [Array.toList_setIfInBounds, List.length_cons, show off + (k + 1) = off + k + 1 by omega]
    exact list_put_put cs.toList (off + k) v vs (by simpa [Nat.add_assoc] using h)
theorem fill_one (place : Nat → Option (Nat × Nat)) (cs : Array Value) (i off size : Nat) (v : Value) (rest : List (Nat × Value)) (hp : place i = some (off, size)) (hs : v.cells.size = size) (ho : off + size ≤ cs.size) :
    Instr.fill place cs ((i, v) :: rest) = Instr.fill place (putAt cs off v.cells.toList) rest := by
  have hf : (v.cells.zipIdx.foldl (fun cs (x : Value × Nat) => cs.setIfInBounds (off + x.2) x.1) cs) = putAt cs off v.cells.toList := by
    rw [← Array.foldl_toList, Array.toList_zipIdx]
    simpa using fold_put v.cells.toList 0 off cs (by simp; omega)
  have hn : ¬ (v.cells.size ≠ size || decide (off + v.cells.size > cs.size)) = true := by
    rw [hs]; simp; omega
  rw [Instr.fill]
  simp only [hp]
  rw [if_neg (by simpa using hn)]
  exact congrArg (fun c => Instr.fill place c rest) hf

section
variable {P : Program} {t e : TypeId}
/-- A struct of two fields, the second an array. -/
theorem run_build2 {f0 f1 : Field} {s0 s1 : Nat} {z : Value} (ht : P.underlying t = some (.struct #[f0, f1])) (hz : ∀ W, (zeroValue t).run P W = .ok z W)
    (i0 : (P.info? f0.type).map (·.size) = some s0) (i1 : (P.info? f1.type).map (·.size) = some s1) (o0 : f0.offset = 0) (o1 : f1.offset = s0) (hsz : z.cells.size = s0 + s1)
    (a b : Value) (ha : a.cells.size = s0) (hb : b.cells.size = s1) (w : World) :
    (Instr.build t #[(0, a), (1, b)]).run P w = .ok (.agg (a.cells ++ b.cells)) w := by
  have hfill : Instr.fill (fun i => #[(f0.offset, s0), (f1.offset, s1)][i]?) z.cells [(0, a), (1, b)] = some (a.cells ++ b.cells) := by
    rw [fill_one _ _ 0 0 s0 a _ (by simp [o0]) ha (by omega), fill_one _ _ 1 s0 s1 b _ (by simp [o1]) hb (by rw [putAt_size _ _ _ (by simp; omega)]; omega)]
    rw [Instr.fill]
    congr 1
    apply Array.ext'
    unfold putAt
    simp only [List.take_zero, List.nil_append, Nat.zero_add, Array.length_toList, Array.toList_append]
    rw [List.take_append_of_le_length (by simp; omega), List.take_of_length_le (by simp; omega), List.drop_of_length_le (by simp; omega), List.append_nil]
  unfold Instr.build
  simp only [Sem.run_bind, hz w, Result.andThen_ok, run_underlying ht]
  have hm : (Array.mapM (fun f : Field => do pure (f.offset, ← sizeOf f.type)) #[f0, f1] : Sem _).run P w = .ok #[(f0.offset, s0), (f1.offset, s1)] w := by
    simp [Sem.run_bind, run_sizeOf i0, run_sizeOf i1]
  simp only [hm, Result.andThen_ok]
  rw [hfill]
  rfl
/-- A new slice of one element. -/
theorem run_buildSlice1 {z : Value} {s : Nat} (ht : P.underlying t = some (.slice e)) (hz : ∀ W, (zeroValue e).run P W = .ok z W) (hi : (P.info? e).map (·.size) = some s) (h0 : 0 < s) (h24 : s ≤ 2 ^ 24)
    (a : Value) (ha : a.cells.size = s) (w : World) :
    (Instr.buildSlice t 1 #[(0, a)]).run P w = .ok (.slice (some ⟨w.heap.size, 0, none⟩) 1 1) (w.alloc (.cells a.cells e)) := by
  have hfill : ∀ c : Array Value, c.size = s → Instr.fill (fun i => some (i * s, s)) c [(0, a)] = some a.cells := by
    intro c hc
    rw [fill_one _ _ 0 0 s a _ (by simp) ha (by omega), Instr.fill]
    rw [putAt_all _ _ (hc.trans ha.symm)]
  unfold Instr.buildSlice
  have h1 : ¬ (1 * s > 2 ^ 24) := by omega
  have h2 : ¬ (1 * s = 0) := by omega
  simp only [Sem.run_bind, run_underlying ht, Result.andThen_ok, run_sizeOf hi]
  rw [if_neg h1, if_neg h2]
  simp only [Sem.run_bind, hz, Result.andThen_ok, Sem.run_pure]
  rw [hfill _ (by simp)]
  rfl

/-- Behind names that the walk does not open. -/
def buildK (t : TypeId) (vs : Array (Nat × Value)) : Sem Next := do pure (.value (← Instr.build t vs))
def buildSliceK (t : TypeId) (n : Nat) (vs : Array (Nat × Value)) : Sem Next := do pure (.value (← Instr.buildSlice t n vs))
theorem run_buildK {w : World} {vs : Array (Nat × Value)} {v : Value} (h : (Instr.build t vs).run P w = .ok v w) : (buildK t vs).run P w = .ok (.value v) w := by
  simp only [buildK, Sem.run_bind, h, Result.andThen_ok, Sem.run_pure]
theorem run_buildSliceK {w w' : World} {n : Nat} {vs : Array (Nat × Value)} {v : Value} (h : (Instr.buildSlice t n vs).run P w = .ok v w') : (buildSliceK t n vs).run P w = .ok (.value v) w' := by
  simp only [buildSliceK, Sem.run_bind, h, Result.andThen_ok, Sem.run_pure]

/-- A new slice of one element: its place is a variable. -/
theorem wpList_buildSlice1 {ops : Array Oper} {rest : List Oper} {o : Oper} {a : Act} {w : World} {Q : Exit → Act → World → Prop} (ps : Array (Nat × Operand)) (ho : o.op = .buildSlice t 1 ps) (x : Value) (hvs : (ps.map fun (i, y) => (i, a.eval y)) = #[(0, x)])
    (hw : Region.wanted o (yielded ops a.tmps) = true) {z : Value} {s : Nat} (ht : P.underlying t = some (.slice e)) (hz : ∀ W, (zeroValue e).run P W = .ok z W) (hi : (P.info? e).map (·.size) = some s) (h0 : 0 < s) (h24 : s ≤ 2 ^ 24) (hx : x.cells.size = s)
    (h : ∀ (g : Nat) (W : World), W.heap[g]? = some (.cells x.cells e (0, 0)) → g < W.heap.size → w.heap.size ≤ g → Below w.heap.size w W → wpList P ops Q rest (a.put o.dst (.slice (some ⟨g, 0, none⟩) 1 1)) W) : wpList P ops Q (o :: rest) a w := by
  refine wpList_wanted hw fun K hK => ?_
  have hrun : (execOp a.eval o).run P w = .ok (.value (.slice (some ⟨w.heap.size, 0, none⟩) 1 1)) (w.alloc (.cells x.cells e)) := by
    unfold execOp
    simp only [ho, hvs, Sem.run_bind, run_buildSlice1 ht hz hi h0 h24 x hx w, Result.andThen_ok, Sem.run_pure]
  unfold Oper.wp
  rw [hrun]
  exact hK _ _ (h w.heap.size _ (heap_alloc_at _ _ rfl) (by simp) (Nat.le_refl _) ((Below.refl _ _).alloc (Nat.le_refl _) _))

/-- append onto an own row: where the new row lies. -/
theorem wpList_append_at {ops : Array Oper} {rest : List Oper} {o : Oper} {a : Act} {w : World} {Q : Exit → Act → World → Prop} (s x : Operand) (t : TypeId)
    (ho : o.op = .call { callee := .builtin .append, args := #[s, x], argTypes := #[t, t] }) (v : Value) (hs : a.eval s = v) (ad : Addr) (m c : Nat) (hx : a.eval x = .slice (some ad) m c) (hw : Region.wanted o (yielded ops a.tmps) = true)
    (e : TypeId) (i : TypeInfo) (z : Value) (size bytes : Nat) (ht : P.underlying t = some (.slice e)) (hi : P.info? e = some i) (hz : i.zero = some z)
    (hsize : i.size = size) (hby : i.bytes = bytes) (hzs : z.cells.size = size) (hsz : 0 < size)
    (n : Nat) (xs : List Value) (hown : w.ownsRow 0 e size v n xs)
    (news : List Value) (hl : news.length = m * size) (hnews : ∀ j u, news[j]? = some u → w.cell? (ad.add j) = some u) (h1 : ∀ u ∈ news, u.oneCell' = true)
    (h63 : n + m ≤ maxLen) (hbytes : (n + m) * bytes ≤ 140737488355328)
    (h : ∀ v' w', w'.ownsRow 0 e size v' (n + m) (xs ++ news) → Tch (fun g => v.ownBlock = some g) w w' → (v'.ownBlock = v.ownBlock ∨ v'.ownBlock = some w.heap.size) → wpList P ops Q rest (a.put o.dst v') w') : wpList P ops Q (o :: rest) a w := by
  refine wpList_wanted hw fun K hK => ?_
  obtain ⟨v', w', hrun, h2, h3, _, h5⟩ := run_append_own_at (P := P) w 0 t o.type e i z size bytes ht hi hz hsize hby hzs hsz v n xs hown ad m c news hl hnews h1 h63 hbytes (Nat.zero_le _)
  unfold Oper.wp execOp
  simp only [ho, resolve, invoke, builtin, Sem.run_bind, Sem.run_pure, Result.andThen_ok, List.map_toArray, List.map_cons, List.map_nil, hs, hx, hrun]
  exact hK _ _ (h v' w' h2 ⟨h3.os, h3.tape, h3.output, h3.size, fun k hk hne => h3.block k hk (fun e => hne e.symm)⟩ h5)
end
end Go.Cu
/- Slices that grow, side by side with other things. -/
namespace Go.Cu
open Go Go.RowKit
section
variable {W0 W W' : World} {L : List Atm} {v v' : Value} {e s n n' : Nat} {xs xs' : List Value}
theorem St.grow (h : St W0 (Row v e s n xs :: L) W) (ho : W'.ownsRow 0 e s v' n' xs') (ht : Tch (fun g => v.ownBlock = some g) W W') (hb : v'.ownBlock = v.ownBlock ∨ v'.ownBlock = some W.heap.size) : St W0 (Row v' e s n' xs' :: L) W' := by
  obtain ⟨F, ha, _, hr⟩ := h.first
  refine hr _ _ ⟨fun g hg => ?_, ho⟩ (ht.mono fun i _ e => ha.1 i e)
  rcases hb with e | e
  · exact .inl (ha.1 g (e ▸ hg))
  · rw [hg] at e
    have : g = W.heap.size := Option.some.inj e
    exact .inr (by omega)
theorem St.nilRow (h : St W0 L W) (e s : Nat) : St W0 (Row (.slice none 0 0) e s 0 [] :: L) W :=
  h.push (Below.refl _ _) ⟨fun g hg => by simp [Value.ownBlock] at hg, by simp, .inl ⟨rfl, rfl⟩⟩
theorem row_slice (h : St W0 (Row v e s n xs :: L) W) : ∃ A c, v = .slice A n c ∧ n ≤ maxLen := by
  rcases h.row.2 with ⟨rfl, rfl⟩ | ⟨g, c, cur, rfl, _, _, hc, hm, _⟩
  · exact ⟨none, 0, rfl, Nat.zero_le _⟩
  · exact ⟨_, _, rfl, Nat.le_trans hc hm⟩
theorem news_box {g : Nat} {cs : Array Value} {t : TypeId} {fr : Nat × Nat} (h : W.heap[g]? = some (.cells cs t fr)) (l : List Value) (hl : cs.toList = l) : ∀ j u, l[j]? = some u → W.cell? ((⟨g, 0, none⟩ : Addr).add j) = some u := by
  intro j u hu
  have e : (⟨g, 0, none⟩ : Addr).add j = ⟨g, j, none⟩ := by unfold Addr.add; split <;> simp_all
  rw [e, cell_of_row W g j _ _ _ h]
  subst hl
  simpa using hu
end
end Go.Cu
/- A new slice of nothing, and a row that it begins; a slice of a known block appended to a row. -/
namespace Go.Cu
open Go Go.RowKit
section
variable {P : Program} {t e : TypeId}
theorem run_buildSlice0 {s : Nat} (ht : P.underlying t = some (.slice e)) (hi : (P.info? e).map (·.size) = some s) (w : World) :
    (Instr.buildSlice t 0 #[]).run P w = .ok (.slice (some ⟨w.heap.size, 0, none⟩) 0 0) (w.alloc (.cells #[] e)) := by
  unfold Instr.buildSlice
  have h1 : ¬ (0 * s > 2 ^ 24) := by omega
  have h2 : 0 * s = 0 := by omega
  simp only [Sem.run_bind, run_underlying ht, Result.andThen_ok, run_sizeOf hi]
  rw [if_neg h1, if_pos h2]
  simp only [Sem.run_bind, Sem.run_pure, Result.andThen_ok, h2, show Array.range 0 = #[] from by simp, Array.map_empty, Instr.fill]
  rfl
theorem wpList_buildSlice0 {ops : Array Oper} {rest : List Oper} {o : Oper} {a : Act} {w : World} {Q : Exit → Act → World → Prop} (ho : o.op = .buildSlice t 0 #[])
    (hw : Region.wanted o (yielded ops a.tmps) = true) {s : Nat} (ht : P.underlying t = some (.slice e)) (hi : (P.info? e).map (·.size) = some s)
    (h : ∀ (g : Nat) (W : World), W.heap[g]? = some (.cells #[] e (0, 0)) → g < W.heap.size → w.heap.size ≤ g → Below w.heap.size w W → wpList P ops Q rest (a.put o.dst (.slice (some ⟨g, 0, none⟩) 0 0)) W) : wpList P ops Q (o :: rest) a w := by
  refine wpList_wanted hw fun K hK => ?_
  have hrun : (execOp a.eval o).run P w = .ok (.value (.slice (some ⟨w.heap.size, 0, none⟩) 0 0)) (w.alloc (.cells #[] e)) := by
    unfold execOp
    simp only [ho, Array.map_empty, Sem.run_bind, run_buildSlice0 ht hi w, Result.andThen_ok, Sem.run_pure]
  unfold Oper.wp
  rw [hrun]
  exact hK _ _ (h w.heap.size _ (heap_alloc_at _ _ rfl) (by simp) (Nat.le_refl _) ((Below.refl _ _).alloc (Nat.le_refl _) _))
end
section
variable {W0 W W' : World} {L : List Atm}
theorem St.newRow0 {g e s : Nat} (h : St W0 L W) (hb : Below W.heap.size W W') (hg : W.heap.size ≤ g) (hc : W'.heap[g]? = some (.cells #[] e (0, 0))) : St W0 (Row (.slice (some ⟨g, 0, none⟩) 0 0) e s 0 [] :: L) W' :=
  h.push hb ⟨fun g' hg' => by
    have : g = g' := by simpa [Value.ownBlock] using hg'
    subst this
    exact hg, by simp, .inr ⟨g, 0, #[], rfl, Nat.zero_le _, hc, Nat.le_refl _, Nat.zero_le _, by simp, by simp⟩⟩
end
end Go.Cu
/- Arrays of bytes among a law's parameters: opened to 'bv'. -/
namespace Go.Cu
open Go Go.RowKit Go.ChangeShapes Go.WideShapes
section
variable {H : Type} {enc : TypeId × Value → H} {P : Program} {w : World} {base : Nat} {spare : Nat → Bool} {held : Bool}

theorem cells_bv : ∀ (cs : List Value), (∀ c ∈ cs, ∃ a : Int, c = .int .u8 a ∧ (Lit.int .u8 a).wf = true) → ∃ l : List UInt8, cs = l.map fun b => Value.int .u8 (b.toNat : Int)
  | [], _ => ⟨[], rfl⟩
  | c :: cs, h => by
    obtain ⟨a, rfl, ha⟩ := h c (by simp)
    obtain ⟨l, rfl⟩ := cells_bv cs (fun x hx => h x (by simp [hx]))
    have hb := bounds_u8 ha
    refine ⟨UInt8.ofNat a.toNat :: l, ?_⟩
    have : ((UInt8.ofNat a.toNat).toNat : Int) = a := by
      rw [UInt8.toNat_ofNat', Nat.mod_eq_of_lt (by omega)]
      omega
    rw [List.map_cons, this]

theorem open_bytes {r : Reach} {b0 : Nat} {t e : TypeId} {n : Nat} {v : Value} {d : DataW H} {p : List MemPlace} (ht : P.underlying t = some (.array n e)) (he : P.underlying e = some (.int .u8)) (hc : P.cellsOf e = 1) (hC : P.cellsOf t = n)
    (hv : Value.okWide P w r b0 t v) (h : DataW.Trod enc P w base spare held t v d p) : ∃ l : List UInt8, l.length = n ∧ v = .agg (bv l) := by
  simp only [Value.okWide, ht] at hv
  obtain ⟨cs, rfl, hsz, _⟩ := hv
  obtain ⟨fuel, hf⟩ := h
  obtain ⟨xs, m, _, _, _, hl, hel⟩ := DataW.trod_array ht hf
  rw [hC] at hsz
  have hall : ∀ c ∈ cs.toList, ∃ a : Int, c = .int .u8 a ∧ (Lit.int .u8 a).wf = true := by
    intro c hcm
    obtain ⟨i, hi, rfl⟩ := List.mem_iff_getElem.1 hcm
    have hin : i < n := by simpa [hsz] using hi
    have h1 := hel i hin
    rw [hc] at h1
    have h2 : (cs.toList.drop (i * 1)).take 1 = [cs.toList[i]] := by
      rw [Nat.mul_one, List.drop_eq_getElem_cons hi]
      rfl
    have hx : xs[i]? = some (xs[i]'(by omega)) := List.getElem?_eq_getElem (by omega)
    rw [show (Value.agg cs).cells.toList = cs.toList from rfl, h2, hx] at h1
    obtain ⟨a, e1, _, wa⟩ := DataW.trod_int he h1
    exact ⟨a, by simpa using e1, wa⟩
  obtain ⟨l, hl'⟩ := cells_bv cs.toList hall
  refine ⟨l, ?_, ?_⟩
  · have := congrArg List.length hl'
    simp only [Array.length_toList, List.length_map] at this
    omega
  · have : cs = bv l := by
      apply Array.ext'
      rw [hl', bv_toList]
    rw [this]
end
end Go.Cu
/- Slices among a law's parameters: their cells; lists out of 'there is one at each index'. -/
namespace Go.Cu
open Go Go.RowKit Go.ChangeShapes Go.WideShapes
theorem choose_list {α : Type} {p : Nat → α → Prop} : ∀ (n : Nat), (∀ i, i < n → ∃ x, p i x) → ∃ l : List α, l.length = n ∧ ∀ i x, l[i]? = some x → p i x
  | 0, _ => ⟨[], rfl, fun i x h => by simp at h⟩
  | n + 1, h => by
    obtain ⟨l, hl, hp⟩ := choose_list n fun i hi => h i (by omega)
    obtain ⟨x, hx⟩ := h n (by omega)
    refine ⟨l ++ [x], by simp [hl], fun i y hy => ?_⟩
    by_cases hi : i < n
    · rw [List.getElem?_append_left (by omega)] at hy
      exact hp i y hy
    · have hlt := (List.getElem?_eq_some_iff.1 hy).1
      simp only [List.length_append, List.length_singleton] at hlt
      have e : i = n := by omega
      subst e
      rw [List.getElem?_append_right (by omega)] at hy
      rw [hl, Nat.sub_self] at hy
      obtain rfl : x = y := by simpa using hy
      exact hx
section
variable {H : Type} {enc : TypeId × Value → H} {P : Program} {w : World} {base : Nat} {spare : Nat → Bool} {held : Bool}
/-- A slice's cells. -/
theorem slice_cells {t e : TypeId} {s fuel : Nat} {cs : List Value} {x : DataW H × List MemPlace} (ht : P.underlying t = some (.slice e)) (hs : P.cellsOf e = s) (h0 : 0 < s) (h : DataW.trod enc P w base spare held fuel t cs = some x) :
    ∃ (A : Option Addr) (len cap : Nat), cs = [.slice A len cap] ∧ len ≤ cap ∧ cap ≤ maxLen ∧ ∀ i, i < len → ∃ (g o n : Nat) (cs' : List Value) (y : DataW H × List MemPlace), A = some ⟨g, o, none⟩ ∧ g < w.heap.size ∧ cs'.length = s ∧
      (∀ k, k < s → w.cell? ⟨g, o + i * s + k, none⟩ = cs'[k]?) ∧ DataW.trod enc P w base spare held n e cs' = some y := by
  subst hs
  rcases DataW.trod_slice ht h with ⟨rfl, _⟩ | ⟨a, len, cap, elems, rest, n, _, rfl, _, _, hl, hm, hlen, hel, _, _⟩
  · exact ⟨none, 0, 0, rfl, Nat.le_refl _, Nat.zero_le _, fun i hi => absurd hi (by omega)⟩
  · refine ⟨some a, len, cap, rfl, hl, hm, fun i hi => ?_⟩
    have hspot : a.spot = none ∧ a.block < w.heap.size := by
      have h1 := hel 0 (by omega)
      rw [List.getElem?_eq_getElem (by omega), Option.bind_eq_some_iff] at h1
      obtain ⟨cs', hc, _⟩ := h1
      obtain ⟨_, hcl, hat⟩ := World.cells?_some hc
      have h2 := hat 0 h0
      rw [List.getElem?_eq_getElem (by omega)] at h2
      have e : (a.add (0 * P.cellsOf e)).add 0 = a := by simp [Addr.add]
      rw [e] at h2
      refine ⟨World.cell?_spot h2, ?_⟩
      rcases Nat.lt_or_ge a.block w.heap.size with h3 | h3
      · exact h3
      · unfold World.cell? at h2
        rw [Array.getElem?_eq_none h3] at h2
        simp at h2
    obtain ⟨g, o, sp⟩ := a
    obtain ⟨rfl, hg⟩ := hspot
    have h1 := hel i hi
    rw [List.getElem?_eq_getElem (by omega), Option.bind_eq_some_iff] at h1
    obtain ⟨cs', hc, hy⟩ := h1
    obtain ⟨_, hcl, hat⟩ := World.cells?_some hc
    refine ⟨g, o, n, cs', _, rfl, hg, hcl, fun k hk => ?_, hy⟩
    have h2 := hat k hk
    rw [Go.Deep.add_add] at h2
    have e : (⟨g, o, none⟩ : Addr).add (i * P.cellsOf e + k) = ⟨g, o + i * P.cellsOf e + k, none⟩ := by
      unfold Addr.add
      split
      · rename_i hz
        simp only [Addr.mk.injEq, and_true, true_and]
        omega
      · simp [Nat.add_assoc]
    rw [e] at h2
    exact h2
/-- A struct's fields. -/
theorem field_cells {t : TypeId} {fs : Array Field} {fuel : Nat} {cs : List Value} {x : DataW H × List MemPlace} (ht : P.underlying t = some (.struct fs)) (h : DataW.trod enc P w base spare held fuel t cs = some x) :
    ∀ (i : Nat) (f : Field), fs[i]? = some f → ∃ n y, DataW.trod enc P w base spare held n f.type ((cs.drop f.offset).take (P.cellsOf f.type)) = some y := by
  obtain ⟨xs, n, _, _, _, hl, hf⟩ := DataW.trod_struct ht h
  intro i f hi
  have h1 := hf i f hi
  have hlt := (Array.getElem?_eq_some_iff.1 hi).1
  rw [List.getElem?_eq_getElem (by omega)] at h1
  exact ⟨n, _, h1⟩
/-- A parameter that is a slice. -/
theorem param_slice {r : Reach} {b0 : Nat} {t e : TypeId} {s : Nat} {v : Value} {d : DataW H} {p : List MemPlace} (ht : P.underlying t = some (.slice e)) (hs : P.cellsOf e = s) (h0 : 0 < s)
    (hv : Value.okWide P w r b0 t v) (h : DataW.Trod enc P w base spare held t v d p) :
    ∃ (A : Option Addr) (len cap : Nat), v = .slice A len cap ∧ len ≤ cap ∧ cap ≤ maxLen ∧ ∀ i, i < len → ∃ (g o n : Nat) (cs' : List Value) (y : DataW H × List MemPlace), A = some ⟨g, o, none⟩ ∧ g < w.heap.size ∧ cs'.length = s ∧
      (∀ k, k < s → w.cell? ⟨g, o + i * s + k, none⟩ = cs'[k]?) ∧ DataW.trod enc P w base spare held n e cs' = some y := by
  obtain ⟨fuel, hf⟩ := h
  obtain ⟨A, len, cap, hcs, h1, h2, h3⟩ := slice_cells ht hs h0 hf
  refine ⟨A, len, cap, ?_, h1, h2, h3⟩
  simp only [Value.okWide, ht, Cell.okWide] at hv
  unfold Cell.ok at hv
  rw [ht] at hv
  cases v <;> simp [Value.cells] at hcs hv ⊢
  · exact hcs
end
/-- Bytes that lie in memory that was there. -/
def BytesIn (W : World) (A : Option Addr) (l : List UInt8) : Prop := ∀ i b, l[i]? = some b → ∃ g o, A = some ⟨g, o, none⟩ ∧ g < W.heap.size ∧ W.cell? ⟨g, o + i, none⟩ = some (.int .u8 b.toNat)
section
variable {H : Type} {enc : TypeId × Value → H} {P : Program} {w : World} {base : Nat} {spare : Nat → Bool} {held : Bool}
theorem bytes_cells {t e : TypeId} {fuel : Nat} {cs : List Value} {x : DataW H × List MemPlace} (ht : P.underlying t = some (.slice e)) (he : P.underlying e = some (.int .u8)) (hc : P.cellsOf e = 1) (h : DataW.trod enc P w base spare held fuel t cs = some x) :
    ∃ (A : Option Addr) (c : Nat) (l : List UInt8), cs = [.slice A l.length c] ∧ l.length ≤ maxLen ∧ BytesIn w A l := by
  obtain ⟨A, len, cap, rfl, h1, h2, h3⟩ := slice_cells ht hc (by omega) h
  obtain ⟨l, rfl, hp⟩ := choose_list (α := UInt8) (p := fun i b => ∃ g o, A = some ⟨g, o, none⟩ ∧ g < w.heap.size ∧ w.cell? ⟨g, o + i, none⟩ = some (.int .u8 b.toNat)) len (fun i hi => by
    obtain ⟨g, o, n, cs', y, hA, hg, hl, hcell, hy⟩ := h3 i hi
    obtain ⟨a, rfl, _, wa⟩ := DataW.trod_int he hy
    have hb := bounds_u8 wa
    have h4 := hcell 0 (by omega)
    refine ⟨UInt8.ofNat a.toNat, g, o, hA, hg, ?_⟩
    have e : ((UInt8.ofNat a.toNat).toNat : Int) = a := by
      rw [UInt8.toNat_ofNat', Nat.mod_eq_of_lt (by omega)]
      omega
    rw [e]
    simpa using h4)
  exact ⟨A, cap, l, rfl, by omega, hp⟩
theorem bools_cells {t e : TypeId} {fuel : Nat} {cs : List Value} {x : DataW H × List MemPlace} (ht : P.underlying t = some (.slice e)) (he : P.underlying e = some .bool) (hc : P.cellsOf e = 1) (h : DataW.trod enc P w base spare held fuel t cs = some x) :
    ∃ (A : Option Addr) (c : Nat) (l : List Bool), cs = [.slice A l.length c] ∧ l.length ≤ maxLen ∧ ∀ i b, l[i]? = some b → ∃ q, A = some q ∧ (q.add i).block < w.heap.size ∧ w.cell? (q.add i) = some (.bool b) := by
  obtain ⟨A, len, cap, rfl, h1, h2, h3⟩ := slice_cells ht hc (by omega) h
  obtain ⟨l, rfl, hp⟩ := choose_list (α := Bool) (p := fun i b => ∃ q, A = some q ∧ (q.add i).block < w.heap.size ∧ w.cell? (q.add i) = some (.bool b)) len (fun i hi => by
    obtain ⟨g, o, n, cs', y, hA, hg, hl, hcell, hy⟩ := h3 i hi
    obtain ⟨a, rfl, _⟩ := DataW.trod_bool he hy
    have h4 := hcell 0 (by omega)
    have e : (⟨g, o, none⟩ : Addr).add i = ⟨g, o + i, none⟩ := by unfold Addr.add; split <;> simp_all
    refine ⟨a, _, hA, ?_, ?_⟩
    · rw [e]; exact hg
    · rw [e]; simpa using h4)
  exact ⟨A, cap, l, rfl, by omega, hp⟩
/-- A parameter of one cell that is a slice: its cells are its value. -/
theorem slice_value {r : Reach} {b0 : Nat} {t e : TypeId} {v u : Value} (ht : P.underlying t = some (.slice e)) (hv : Value.okWide P w r b0 t v) (h : v.cells.toList = [u]) : v = u := by
  simp only [Value.okWide, ht, Cell.okWide] at hv
  unfold Cell.ok at hv
  rw [ht] at hv
  cases v <;> simp [Value.cells] at h hv ⊢
  · exact h
theorem param_bytes {r : Reach} {b0 : Nat} {t e : TypeId} {v : Value} {d : DataW H} {p : List MemPlace} (ht : P.underlying t = some (.slice e)) (he : P.underlying e = some (.int .u8)) (hc : P.cellsOf e = 1)
    (hv : Value.okWide P w r b0 t v) (h : DataW.Trod enc P w base spare held t v d p) : ∃ (A : Option Addr) (c : Nat) (l : List UInt8), v = .slice A l.length c ∧ l.length ≤ maxLen ∧ BytesIn w A l := by
  obtain ⟨fuel, hf⟩ := h
  obtain ⟨A, c, l, hcs, h1, h2⟩ := bytes_cells ht he hc hf
  exact ⟨A, c, l, slice_value ht hv hcs, h1, h2⟩
theorem param_bools {r : Reach} {b0 : Nat} {t e : TypeId} {v : Value} {d : DataW H} {p : List MemPlace} (ht : P.underlying t = some (.slice e)) (he : P.underlying e = some .bool) (hc : P.cellsOf e = 1)
    (hv : Value.okWide P w r b0 t v) (h : DataW.Trod enc P w base spare held t v d p) : ∃ (A : Option Addr) (c : Nat) (l : List Bool), v = .slice A l.length c ∧ l.length ≤ maxLen ∧ ∀ i b, l[i]? = some b → ∃ q, A = some q ∧ (q.add i).block < w.heap.size ∧ w.cell? (q.add i) = some (.bool b) := by
  obtain ⟨fuel, hf⟩ := h
  obtain ⟨A, c, l, hcs, h1, h2⟩ := bools_cells ht he hc hf
  exact ⟨A, c, l, slice_value ht hv hcs, h1, h2⟩
end
end Go.Cu
/- Slices of bytes that lie somewhere: of each the bytes that it has. -/
namespace Go.Cu
open Go Go.RowKit
/-- The bytes r lie behind A, in blocks of F. -/
def BytesF (F : Nat → Prop) (W : World) (A : Option Addr) (r : List UInt8) : Prop := ∀ (k : Nat) (b : UInt8), r[k]? = some b → ∃ g o, A = some ⟨g, o, none⟩ ∧ F g ∧ g < W.heap.size ∧ W.cell? ⟨g, o + k, none⟩ = some (.int .u8 b.toNat)
theorem BytesF.keep {F : Nat → Prop} {W W' : World} {A : Option Addr} {r : List UInt8} (h : BytesF F W A r) (hk : ∀ g, g < W.heap.size → F g → W'.heap[g]? = W.heap[g]?) : BytesF F W' A r := fun k b hb => by
  obtain ⟨g, o, e, hf, hg, hc⟩ := h k b hb
  have hh := hk g hg hf
  have hb' : W'.heap[(⟨g, o + k, none⟩ : Addr).block]? = W.heap[(⟨g, o + k, none⟩ : Addr).block]? := hh
  refine ⟨g, o, e, hf, ?_, ?_⟩
  · rcases Nat.lt_or_ge g W'.heap.size with h1 | h1
    · exact h1
    · rw [Array.getElem?_eq_none h1] at hh
      rw [Array.getElem?_eq_getElem hg] at hh
      cases hh
  · rw [World.cell?_of_block (a := ⟨g, o + k, none⟩) hb']
    exact hc
theorem BytesF.mono {F G : Nat → Prop} {W : World} {A : Option Addr} {r : List UInt8} (h : BytesF F W A r) (hm : ∀ g, g < W.heap.size → F g → G g) : BytesF G W A r := fun k b hb => by
  obtain ⟨g, o, e, hf, hg, hc⟩ := h k b hb
  exact ⟨g, o, e, hm g hg hf, hg, hc⟩
/-- Of each of the values the bytes. -/
def ValsIn (F : Nat → Prop) (W : World) (xs : List Value) (rs : List (List UInt8)) : Prop :=
  xs.length = rs.length ∧ ∀ (i : Nat) (r : List UInt8), rs[i]? = some r → ∃ A c, xs[i]? = some (.slice A r.length c) ∧ r.length ≤ c ∧ c ≤ maxLen ∧ BytesF F W A r
def Vals (xs : List Value) (rs : List (List UInt8)) : Atm :=
  ⟨fun F W => ValsIn F W xs rs, fun {F W W'} h hk => ⟨h.1, fun i r hi => by
    obtain ⟨A, c, e, h1, h2, hb⟩ := h.2 i r hi
    exact ⟨A, c, e, h1, h2, hb.keep hk⟩⟩, fun {F G W} h hm => ⟨h.1, fun i r hi => by
    obtain ⟨A, c, e, h1, h2, hb⟩ := h.2 i r hi
    exact ⟨A, c, e, h1, h2, hb.mono hm⟩⟩⟩
theorem ValsIn.join {F : Nat → Prop} {W : World} {xs ys : List Value} {rs ss : List (List UInt8)} (h : ValsIn F W xs rs) (h' : ValsIn F W ys ss) : ValsIn F W (xs ++ ys) (rs ++ ss) := by
  refine ⟨by rw [List.length_append, List.length_append, h.1, h'.1], fun i r hi => ?_⟩
  rcases Nat.lt_or_ge i rs.length with hl | hl
  · rw [List.getElem?_append_left hl] at hi
    rw [List.getElem?_append_left (by rw [h.1]; exact hl)]
    exact h.2 i r hi
  · rw [List.getElem?_append_right hl] at hi
    rw [List.getElem?_append_right (by rw [h.1]; exact hl), h.1]
    exact h'.2 _ r hi
section
variable {W0 W W' : World} {L : List Atm}
theorem St.vals_nil (h : St W0 L W) : St W0 (Vals [] [] :: L) W := h.push (Below.refl _ _) ⟨rfl, fun i r hi => by cases hi⟩
theorem St.vals_join {xs ys : List Value} {rs ss : List (List UInt8)} (h : St W0 (Vals xs rs :: Vals ys ss :: L) W) : St W0 (Vals (xs ++ ys) (rs ++ ss) :: L) W := by
  obtain ⟨hb, G, ha, H, hb', r⟩ := h
  refine ⟨hb, fun g => G g ∨ H g, ?_, r.mono fun g _ hf => ⟨hf.1.1, fun h => h.elim hf.1.2 hf.2⟩⟩
  exact ValsIn.join ((Vals xs rs).mono ha fun g _ hf => ⟨hf.1, .inl hf.2⟩) ((Vals ys ss).mono hb' fun g _ hf => ⟨hf.1.1, .inr hf.2⟩)
theorem St.vals {xs : List Value} {rs : List (List UInt8)} (h : St W0 (Vals xs rs :: L) W) : ValsIn (fun g => W0.heap.size ≤ g) W xs rs := by
  obtain ⟨F, ha, hf, _⟩ := h.first
  exact (Vals xs rs).mono ha fun g _ hg => (hf g hg).1
theorem BytesF.bytes {F : Nat → Prop} {A : Option Addr} {r : List UInt8} (h : BytesF F W A r) : BytesIn W A r := fun k b hb => by
  obtain ⟨g, o, e, _, hg, hc⟩ := h k b hb
  exact ⟨g, o, e, hg, hc⟩
/-- A row of bytes, cut: one slice. -/
theorem St.cut_row {v : Value} {e n s : Nat} {bs : List UInt8} {A : Option Addr} {c : Nat} (h : St W0 (Row v e 1 n (bs.map fun b => Value.int .u8 b.toNat) :: L) W) (hv : v = .slice A n c) (hs : s ≤ n) (h0 : 0 < n) :
    St W0 (Vals [.slice A s s] [bs.take s] :: L) W := by
  have hx := h.row.1
  simp only [List.length_map, Nat.mul_one] at hx
  obtain ⟨F, ha, hF, hr⟩ := h.first
  refine hr _ _ ?_ (Tch.refl _ _)
  refine ⟨rfl, fun i r hi => ?_⟩
  match i with
  | i + 1 => cases hi
  | 0 =>
  have hi' : bs.take s = r := by simpa using hi
  subst hi'
  have hl : (bs.take s).length = s := by rw [List.length_take]; omega
  rcases ha.2.2 with ⟨_, h1⟩ | ⟨g, cap, cur, e1, _, hh, hc, hm, _, hp⟩
  · omega
  · have e2 : A = some ⟨g, 0, none⟩ ∧ c = cap := by rw [hv] at e1; injection e1 with p1 p2 p3; exact ⟨p1, p3⟩
    refine ⟨A, s, by rw [hl]; rfl, by omega, by omega, fun k b hb => ?_⟩
    have hk : k < s := by
      rcases Nat.lt_or_ge k s with h | h
      · exact h
      · rw [List.getElem?_eq_none (by rw [hl]; exact h)] at hb; cases hb
    rw [List.getElem?_take_of_lt hk] at hb
    refine ⟨g, 0, e2.1, .inl (ha.1 g (by rw [e1]; rfl)), heap_lt hh, ?_⟩
    rw [cell_of_row W g (0 + k) _ _ _ hh, Nat.zero_add]
    have h3 : (cur.toList.take (n * 1))[k]? = some (Value.int .u8 b.toNat) := by rw [hp, List.getElem?_map, hb]; rfl
    rw [Nat.mul_one, List.getElem?_take_of_lt (by omega)] at h3
    simpa using h3
end
end Go.Cu
/- More orders of what lies side by side. -/
namespace Go.Cu
open Go Go.RowKit
section
variable {W0 W : World} {L : List Atm} {a b c d e f g : Atm}
theorem St.at5 (h : St W0 (a :: b :: c :: d :: e :: L) W) : St W0 (e :: a :: b :: c :: d :: L) W := h.perm (List.perm_middle (l₁ := [a, b, c, d]))
theorem St.back5 (h : St W0 (e :: a :: b :: c :: d :: L) W) : St W0 (a :: b :: c :: d :: e :: L) W := h.perm (List.perm_middle (l₁ := [a, b, c, d])).symm
theorem St.at6 (h : St W0 (a :: b :: c :: d :: e :: f :: L) W) : St W0 (f :: a :: b :: c :: d :: e :: L) W := h.perm (List.perm_middle (l₁ := [a, b, c, d, e]))
theorem St.back6 (h : St W0 (f :: a :: b :: c :: d :: e :: L) W) : St W0 (a :: b :: c :: d :: e :: f :: L) W := h.perm (List.perm_middle (l₁ := [a, b, c, d, e])).symm
theorem St.at7 (h : St W0 (a :: b :: c :: d :: e :: f :: g :: L) W) : St W0 (g :: a :: b :: c :: d :: e :: f :: L) W := h.perm (List.perm_middle (l₁ := [a, b, c, d, e, f]))
theorem St.back7 (h : St W0 (g :: a :: b :: c :: d :: e :: f :: L) W) : St W0 (a :: b :: c :: d :: e :: f :: g :: L) W := h.perm (List.perm_middle (l₁ := [a, b, c, d, e, f])).symm
theorem St.rot2 (h : St W0 (a :: b :: c :: d :: L) W) : St W0 (c :: d :: a :: b :: L) W := h.at3.at4.at2
theorem St.drop4 (h : St W0 (a :: b :: c :: d :: L) W) : St W0 (a :: b :: c :: L) W := h.at4.drop
theorem St.drop5 (h : St W0 (a :: b :: c :: d :: e :: L) W) : St W0 (a :: b :: c :: d :: L) W := h.at5.drop
/-- Things that lie in one list may be taken apart or put together at will: only the ones that are wanted. -/
theorem St.sub {M : List Atm} (h : St W0 (M ++ L) W) : St W0 L W := by
  induction M with
  | nil => exact h
  | cons a M ih => exact ih h.drop
end
end Go.Cu
