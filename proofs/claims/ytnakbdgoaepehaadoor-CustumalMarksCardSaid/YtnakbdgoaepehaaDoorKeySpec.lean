/- Keys of 256 bits, plainly: bits, the count of bits that two keys begin with alike, the order. No program. -/
namespace Go.Cu

/-- The i-th bit, from the highest of the first byte on. -/
def bitN (l : List UInt8) (i : Nat) : Nat := (l.getD (i / 8) 0).toNat / 2 ^ (7 - i % 8) % 2
theorem bitN_lt (l : List UInt8) (i : Nat) : bitN l i < 2 := Nat.mod_lt _ (by decide)

/-- c is how many bits two keys begin with alike. -/
def IsCm (k l : List UInt8) (c : Nat) : Prop := c ≤ 256 ∧ (∀ j, j < c → bitN k j = bitN l j) ∧ (c < 256 → bitN k c ≠ bitN l c)
def cm (k l : List UInt8) : Nat := ((List.range 256).find? fun i => bitN k i != bitN l i).getD 256

theorem cm_is (k l : List UInt8) : IsCm k l (cm k l) := by
  unfold cm
  cases h : (List.range 256).find? fun i => bitN k i != bitN l i with
  | none =>
    rw [List.find?_eq_none] at h
    refine ⟨Nat.le_refl _, fun j hj => ?_, fun hc => absurd hc (by simp)⟩
    have := h j (List.mem_range.2 (by simpa using hj))
    simpa using this
  | some i =>
    rw [List.find?_range_eq_some] at h
    obtain ⟨hp, hm, hb⟩ := h
    have hi : i < 256 := by simpa using hm
    refine ⟨Nat.le_of_lt hi, fun j hj => ?_, fun _ => by simpa using hp⟩
    have := hb j (by simpa using hj)
    simpa using this

theorem IsCm.unique {k l : List UInt8} {c d : Nat} (h : IsCm k l c) (h' : IsCm k l d) : c = d := by
  rcases Nat.lt_trichotomy c d with hlt | he | hlt
  · exact absurd (h'.2.1 c hlt) (h.2.2 (Nat.lt_of_lt_of_le hlt h'.1))
  · exact he
  · exact absurd (h.2.1 d hlt) (h'.2.2 (Nat.lt_of_lt_of_le hlt h.1))
theorem IsCm.eq {k l : List UInt8} {c : Nat} (h : IsCm k l c) : c = cm k l := h.unique (cm_is k l)
theorem cm_le (k l : List UInt8) : cm k l ≤ 256 := (cm_is k l).1
theorem cm_self (k : List UInt8) : cm k k = 256 := ((show IsCm k k 256 from ⟨Nat.le_refl _, fun _ _ => rfl, fun h => absurd h (by decide)⟩).eq).symm
theorem cm_symm (k l : List UInt8) : cm k l = cm l k := by
  obtain ⟨h1, h2, h3⟩ := cm_is k l
  exact IsCm.eq ⟨h1, fun j hj => (h2 j hj).symm, fun h e => h3 h e.symm⟩
/-- Of three keys the least count stands twice. -/
theorem cm_three (a b c : List UInt8) : min (cm a b) (cm b c) ≤ cm a c := by
  obtain ⟨h1, h2, h3⟩ := cm_is a c
  rcases Nat.lt_or_ge (cm a c) (min (cm a b) (cm b c)) with h | h
  · have hl1 : cm a c < cm a b := Nat.lt_of_lt_of_le h (Nat.min_le_left _ _)
    have hl2 : cm a c < cm b c := Nat.lt_of_lt_of_le h (Nat.min_le_right _ _)
    have e1 := (cm_is a b).2.1 _ hl1
    have e2 := (cm_is b c).2.1 _ hl2
    exact absurd (e1.trans e2) (h3 (Nat.lt_of_lt_of_le hl1 (cm_le a b)))
  · exact h

theorem byte_of_bits (a b : Nat) (ha : a < 256) (hb : b < 256) (h : ∀ p, p < 8 → a / 2 ^ (7 - p) % 2 = b / 2 ^ (7 - p) % 2) : a = b := by
  have h0 := h 0 (by decide); have h1 := h 1 (by decide); have h2 := h 2 (by decide); have h3 := h 3 (by decide)
  have h4 := h 4 (by decide); have h5 := h 5 (by decide); have h6 := h 6 (by decide); have h7 := h 7 (by decide)
  simp only [Nat.sub_zero, Nat.reducePow, Nat.reduceSub] at h0 h1 h2 h3 h4 h5 h6 h7
  omega

theorem bitN_byte (l : List UInt8) (n p : Nat) (hp : p < 8) : bitN l (8 * n + p) = (l.getD n 0).toNat / 2 ^ (7 - p) % 2 := by
  unfold bitN
  rw [show (8 * n + p) / 8 = n by omega, show (8 * n + p) % 8 = p by omega]

theorem ext_bytes {k l : List UInt8} (hk : k.length = 32) (hl : l.length = 32) (h : ∀ n, n < 32 → k.getD n 0 = l.getD n 0) : k = l := by
  refine List.ext_getElem (by omega) fun n h1 h2 => ?_
  have := h n (by omega)
  simpa [List.getD_eq_getElem?_getD, h1, h2] using this

theorem cm_256 {k l : List UInt8} (hk : k.length = 32) (hl : l.length = 32) (h : cm k l = 256) : k = l := by
  have h2 := (cm_is k l).2.1
  rw [h] at h2
  refine ext_bytes hk hl fun n hn => ?_
  refine UInt8.toNat_inj.1 (byte_of_bits _ _ (UInt8.toNat_lt _) (UInt8.toNat_lt _) fun p hp => ?_)
  have := h2 (8 * n + p) (by omega)
  rwa [bitN_byte k n p hp, bitN_byte l n p hp] at this
theorem cm_lt {k l : List UInt8} (hk : k.length = 32) (hl : l.length = 32) (h : k ≠ l) : cm k l < 256 := by
  have := cm_le k l
  rcases Nat.lt_or_ge (cm k l) 256 with h' | h'
  · exact h'
  · exact absurd (cm_256 hk hl (by omega)) h

/-- k stands ahead of l. -/
def ltB (k l : List UInt8) : Bool := decide (cm k l < 256) && decide (bitN k (cm k l) = 0)

/-- The first byte that differs, and the first bit in it. -/
theorem isCm_of_byte {k l : List UInt8} (n p : Nat) (hn : n < 32) (hp : p < 8) (heq : ∀ j, j < n → k.getD j 0 = l.getD j 0)
    (hb : ∀ q, q < p → (k.getD n 0).toNat / 2 ^ (7 - q) % 2 = (l.getD n 0).toNat / 2 ^ (7 - q) % 2)
    (hd : (k.getD n 0).toNat / 2 ^ (7 - p) % 2 ≠ (l.getD n 0).toNat / 2 ^ (7 - p) % 2) : IsCm k l (8 * n + p) := by
  refine ⟨by omega, fun j hj => ?_, fun _ => by rwa [bitN_byte k n p hp, bitN_byte l n p hp]⟩
  rw [show j = 8 * (j / 8) + j % 8 by omega, bitN_byte k _ _ (Nat.mod_lt _ (by decide)), bitN_byte l _ _ (Nat.mod_lt _ (by decide))]
  rcases Nat.lt_or_ge (j / 8) n with h | h
  · rw [heq _ h]
  · have e : j / 8 = n := by omega
    rw [e]
    exact hb _ (by omega)

/-- Bytes that differ: the first bit that differs. -/
theorem first_bit (a b : Nat) (ha : a < 256) (hb : b < 256) (h : a ≠ b) : ∃ p, p < 8 ∧ (∀ q, q < p → a / 2 ^ (7 - q) % 2 = b / 2 ^ (7 - q) % 2) ∧ a / 2 ^ (7 - p) % 2 ≠ b / 2 ^ (7 - p) % 2 := by
  cases hf : (List.range 8).find? fun p => a / 2 ^ (7 - p) % 2 != b / 2 ^ (7 - p) % 2 with
  | none =>
    rw [List.find?_eq_none] at hf
    exact absurd (byte_of_bits a b ha hb fun p hp => by simpa using hf p (List.mem_range.2 hp)) h
  | some i =>
    rw [List.find?_range_eq_some] at hf
    obtain ⟨hp, hm, hb'⟩ := hf
    exact ⟨i, by simpa using hm, fun q hq => by simpa using hb' q hq, by simpa using hp⟩

theorem bits8 (a : Nat) (h : a < 256) : a = 128 * (a / 2 ^ (7 - 0) % 2) + 64 * (a / 2 ^ (7 - 1) % 2) + 32 * (a / 2 ^ (7 - 2) % 2) + 16 * (a / 2 ^ (7 - 3) % 2) + 8 * (a / 2 ^ (7 - 4) % 2) + 4 * (a / 2 ^ (7 - 5) % 2) + 2 * (a / 2 ^ (7 - 6) % 2) + a / 2 ^ (7 - 7) % 2 := by
  simp only [Nat.sub_zero, Nat.reducePow, Nat.reduceSub]
  omega
theorem lt_of_bits (f g : Nat → Nat) (a b p : Nat) (hf : ∀ q, f q < 2) (hg : ∀ q, g q < 2)
    (ha : a = 128 * f 0 + 64 * f 1 + 32 * f 2 + 16 * f 3 + 8 * f 4 + 4 * f 5 + 2 * f 6 + f 7)
    (hb : b = 128 * g 0 + 64 * g 1 + 32 * g 2 + 16 * g 3 + 8 * g 4 + 4 * g 5 + 2 * g 6 + g 7)
    (hp : p < 8) (hq : ∀ q, q < p → f q = g q) (hd : f p ≠ g p) : (a < b ↔ f p = 0) := by
  have f0 := hf 0; have f1 := hf 1; have f2 := hf 2; have f3 := hf 3; have f4 := hf 4; have f5 := hf 5; have f6 := hf 6; have f7 := hf 7
  have g0 := hg 0; have g1 := hg 1; have g2 := hg 2; have g3 := hg 3; have g4 := hg 4; have g5 := hg 5; have g6 := hg 6; have g7 := hg 7
  subst ha hb
  match p, hp with
  | 0, _ => omega
  | 1, _ => rw [hq 0 (by decide)] at *; omega
  | 2, _ => rw [hq 0 (by decide), hq 1 (by decide)] at *; omega
  | 3, _ => rw [hq 0 (by decide), hq 1 (by decide), hq 2 (by decide)] at *; omega
  | 4, _ => rw [hq 0 (by decide), hq 1 (by decide), hq 2 (by decide), hq 3 (by decide)] at *; omega
  | 5, _ => rw [hq 0 (by decide), hq 1 (by decide), hq 2 (by decide), hq 3 (by decide), hq 4 (by decide)] at *; omega
  | 6, _ => rw [hq 0 (by decide), hq 1 (by decide), hq 2 (by decide), hq 3 (by decide), hq 4 (by decide), hq 5 (by decide)] at *; omega
  | 7, _ => rw [hq 0 (by decide), hq 1 (by decide), hq 2 (by decide), hq 3 (by decide), hq 4 (by decide), hq 5 (by decide), hq 6 (by decide)] at *; omega
theorem lt_of_first (a b p : Nat) (ha : a < 256) (hb : b < 256) (hp : p < 8) (hq : ∀ q, q < p → a / 2 ^ (7 - q) % 2 = b / 2 ^ (7 - q) % 2) (hd : a / 2 ^ (7 - p) % 2 ≠ b / 2 ^ (7 - p) % 2) :
    (a < b ↔ a / 2 ^ (7 - p) % 2 = 0) :=
  lt_of_bits (fun q => a / 2 ^ (7 - q) % 2) (fun q => b / 2 ^ (7 - q) % 2) a b p (fun _ => Nat.mod_lt _ (by decide)) (fun _ => Nat.mod_lt _ (by decide)) (bits8 a ha) (bits8 b hb) hp hq hd

/-- By the first byte that differs. -/
theorem ltB_of_byte {k l : List UInt8} (n : Nat) (hn : n < 32) (heq : ∀ j, j < n → k.getD j 0 = l.getD j 0) (hd : k.getD n 0 ≠ l.getD n 0) :
    ltB k l = decide ((k.getD n 0).toNat < (l.getD n 0).toNat) := by
  obtain ⟨p, hp, hb, hne⟩ := first_bit _ _ (UInt8.toNat_lt _) (UInt8.toNat_lt _) (fun e => hd (UInt8.toNat_inj.1 e))
  have hc := isCm_of_byte n p hn hp heq hb hne
  have he := hc.eq
  have hl := lt_of_first _ _ p (UInt8.toNat_lt _) (UInt8.toNat_lt _) hp hb hne
  unfold ltB
  rw [← he, bitN_byte k n p hp]
  have h256 : 8 * n + p < 256 := by omega
  simp only [h256, decide_true, Bool.true_and]
  exact decide_eq_decide.2 hl.symm

theorem ltB_self (k : List UInt8) : ltB k k = false := by simp [ltB, cm_self]
theorem ltB_asymm {k l : List UInt8} (h : ltB k l = true) : ltB l k = false := by
  unfold ltB at *
  rw [cm_symm l k]
  simp only [Bool.and_eq_true, decide_eq_true_eq] at h
  have := (cm_is k l).2.2 h.1
  have h2 := bitN_lt l (cm k l)
  simp only [Bool.and_eq_false_iff, decide_eq_false_iff_not]
  exact .inr (by omega)
theorem ltB_total {k l : List UInt8} (hk : k.length = 32) (hl : l.length = 32) (h : k ≠ l) : ltB k l = true ∨ ltB l k = true := by
  have hc := cm_lt hk hl h
  unfold ltB
  rw [cm_symm l k]
  have := (cm_is k l).2.2 hc
  have h1 := bitN_lt k (cm k l)
  have h2 := bitN_lt l (cm k l)
  simp only [Bool.and_eq_true, decide_eq_true_eq]
  omega
/-- It stands in an order. -/
theorem ltB_trans {a b c : List UInt8} (h : ltB a b = true) (h' : ltB b c = true) : ltB a c = true := by
  unfold ltB at *
  simp only [Bool.and_eq_true, decide_eq_true_eq] at *
  obtain ⟨h1, h2⟩ := h
  obtain ⟨h3, h4⟩ := h'
  obtain ⟨_, p2, p3⟩ := cm_is a b
  obtain ⟨_, q2, q3⟩ := cm_is b c
  have p3' := p3 h1
  have q3' := q3 h3
  rcases Nat.lt_trichotomy (cm a b) (cm b c) with hlt | he | hlt
  · have : IsCm a c (cm a b) := ⟨by omega, fun j hj => (p2 j hj).trans (q2 j (by omega)), fun _ e => p3' (e.trans (q2 _ hlt).symm)⟩
    rw [← this.eq]; exact ⟨h1, h2⟩
  · rw [he] at p3' h2; omega
  · have : IsCm a c (cm b c) := ⟨by omega, fun j hj => (p2 j (by omega)).trans (q2 j hj), fun _ e => q3' ((p2 _ hlt).symm.trans e)⟩
    rw [← this.eq]; exact ⟨h3, (p2 _ hlt).trans h4⟩
end Go.Cu
