/- Extents over a disk, plainly. No program. -/
import Derived.Test.YthmchbdhikakhaaDiskTied
namespace Go.Cu
structure Ex where
  first : Nat
  count : Nat
  size : Nat
structure Ex.Ok (e : Ex) (n : Nat) : Prop where
  c1 : 1 ≤ e.count
  s1 : 1 ≤ e.size
  c2 : e.count ≤ n
  s2 : e.size ≤ n
  fits : e.first + e.count * e.size ≤ n
  big : n ≤ 8192
theorem Ex.Ok.within {e : Ex} {n : Nat} (h : e.Ok n) {i : Nat} (hi : i < e.count) : e.first + i * e.size + e.size ≤ n := by
  have h1 := h.fits
  have h2 : (i + 1) * e.size ≤ e.count * e.size := Nat.mul_le_mul_right _ hi
  rw [Nat.succ_mul] at h2
  omega
def Ex.of (e : Ex) (b : Int) : Int := if b < e.first ∨ (e.first : Int) + (e.count * e.size : Nat) ≤ b then -1 else (b - e.first) / e.size

/-- One block: noughts are written there, unless it is of noughts. -/
def DS.zstep (S : DS) (p : Nat) : DS × Int := if S.at_ p ≠ 0 then (S, S.at_ p) else if S.now.getD p zeroB = zeroB then (S, 0) else S.write p zeroB
def DS.zeros : Nat → Nat → DS → DS × Int
  | 0, _, S => S.sync
  | n + 1, p, S => if (S.zstep p).2 ≠ 0 then S.zstep p else DS.zeros n (p + 1) (S.zstep p).1
def DS.clear (S : DS) (p n : Nat) : Bool := (List.range n).all fun i => S.now.getD (p + i) zeroB == zeroB
theorem clear_iff {S : DS} {p n : Nat} : S.clear p n = true ↔ ∀ i, i < n → S.now.getD (p + i) zeroB = zeroB := by
  simp [DS.clear]

theorem write_len' (S : DS) (i : Int) (b : Blk8) : (S.write i b).1.now.length = S.now.length := by
  unfold DS.write
  split
  · rfl
  · unfold DS.tick
    split
    · simp [DS.put]
    · split <;> simp [DS.put]
theorem zstep_len (S : DS) (p : Nat) : (S.zstep p).1.now.length = S.now.length := by
  unfold DS.zstep
  split
  · rfl
  · split
    · rfl
    · exact write_len' _ _ _
theorem zstep_ok {S : DS} {N : Nat} (h : S.Ok N) (p : Nat) : (S.zstep p).1.Ok (N + 1) := by
  unfold DS.zstep
  split
  · exact h.mono (Nat.le_succ _)
  · split
    · exact h.mono (Nat.le_succ _)
    · exact h.write _ zeroB_len
theorem zstep_tied {S : DS} (h : S.Tied) (p : Nat) : (S.zstep p).1.Tied := by
  unfold DS.zstep
  split
  · exact h
  · split
    · exact h
    · exact h.write _ _
theorem zeros_ok : ∀ {n p : Nat} {S : DS} {N : Nat}, S.Ok N → (S.zeros n p).1.Ok (N + n)
  | 0, _, _, _, h => h.sync
  | n + 1, p, S, N, h => by
    unfold DS.zeros
    split
    · exact (zstep_ok h p).mono (by omega)
    · exact (zeros_ok (zstep_ok h p)).mono (by omega)
theorem sync_len' (S : DS) : S.sync.1.now.length = S.now.length := by
  unfold DS.sync
  split
  · rfl
  · exact nowOf_len _ _ _
theorem zeros_len : ∀ (n p : Nat) (S : DS), (S.zeros n p).1.now.length = S.now.length
  | 0, _, S => sync_len' S
  | n + 1, p, S => by
    unfold DS.zeros
    split
    · exact zstep_len _ _
    · rw [zeros_len n, zstep_len]
theorem zeros_tied : ∀ {n p : Nat} {S : DS} {N : Nat}, S.Ok N → S.Tied → (S.zeros n p).1.Tied
  | 0, _, _, _, h, ht => ht.sync h.len
  | n + 1, p, S, N, h, ht => by
    unfold DS.zeros
    split
    · exact zstep_tied ht p
    · exact zeros_tied (zstep_ok h p) (zstep_tied ht p)

theorem at_in {S : DS} {p : Nat} (hp : p < S.now.length) : S.at_ p = if S.off then 13 else 0 := by
  unfold DS.at_
  cases S.off
  · simp only [Bool.false_eq_true, if_false]
    rw [if_neg (by omega)]
  · rfl
/-- What a write does that is answered or falls. -/
theorem write_in {S : DS} (ho : S.off = false) {p : Nat} (hp : p < S.now.length) (b : Blk8) :
    (S.write p b).1.now = S.now.set p b ∧ (S.write p b).1.last = S.last ∧ (S.write p b).1.wait = S.wait ++ [(p, b)] ∧
      (((S.write p b).2 = 0 ∧ (S.write p b).1.off = false) ∨ ((S.write p b).2 = 13 ∧ (S.write p b).1.off = true)) ∧ (S.armed = 0 → (S.write p b).2 = 0 ∧ (S.write p b).1.armed = 0) := by
  have hz : S.at_ (p : Int) = 0 := by rw [at_in hp, ho]; rfl
  have e : S.write (p : Int) b = (S.put p b).tick := by unfold DS.write; rw [if_neg (by simpa using hz)]; simp
  rw [e]
  by_cases h0 : S.armed = 0
  · rw [DS.put_tick0 h0]
    exact ⟨rfl, rfl, rfl, .inl ⟨rfl, ho⟩, fun _ => ⟨rfl, h0⟩⟩
  · by_cases h1 : 0 < S.armed - 1
    · rw [DS.put_tick1 h0 h1]
      exact ⟨rfl, rfl, rfl, .inl ⟨rfl, ho⟩, fun h => absurd h h0⟩
    · rw [DS.put_tick2 h0 h1]
      exact ⟨rfl, rfl, rfl, .inr ⟨rfl, rfl⟩, fun h => absurd h h0⟩

/-- What may have become of blocks L, of which those of p to p + n may be noughts. -/
structure Cut (L : List Blk8) (p n : Nat) (S : DS) : Prop where
  len : S.now.length = L.length
  now : ∀ i, i < L.length → S.now.getD i zeroB = L.getD i zeroB ∨ (p ≤ i ∧ i < p + n ∧ S.now.getD i zeroB = zeroB)
  last : ∀ i, i < L.length → S.last.getD i zeroB = L.getD i zeroB ∨ (p ≤ i ∧ i < p + n ∧ S.last.getD i zeroB = zeroB)
  wait : ∀ q ∈ S.wait, p ≤ q.1 ∧ q.1 < p + n ∧ q.2 = zeroB
theorem getD_set {L : List Blk8} {p i : Nat} {b : Blk8} (hi : i < L.length) : (L.set p b).getD i zeroB = if p = i then b else L.getD i zeroB := by
  rw [List.getD_eq_getElem?_getD]
  split
  · rename_i e; subst e; rw [List.getElem?_set_self hi]; rfl
  · rename_i e; rw [List.getElem?_set_ne e, List.getD_eq_getElem?_getD]
theorem lastOf_cut {L : List Blk8} {p n : Nat} (kept : Nat → Bool) : ∀ (l : List (Nat × Blk8)) (k : Nat) (M : List Blk8), (∀ q ∈ l, p ≤ q.1 ∧ q.1 < p + n ∧ q.2 = zeroB) → M.length = L.length →
    (∀ i, i < L.length → M.getD i zeroB = L.getD i zeroB ∨ (p ≤ i ∧ i < p + n ∧ M.getD i zeroB = zeroB)) →
    ∀ i, i < L.length → (lastOf kept k l M).getD i zeroB = L.getD i zeroB ∨ (p ≤ i ∧ i < p + n ∧ (lastOf kept k l M).getD i zeroB = zeroB)
  | [], _, _, _, _, h => h
  | q :: l, k, M, hl, hM, h => by
    rw [lastOf]
    refine lastOf_cut kept l (k + 1) _ (fun r hr => hl r (by simp [hr])) (by split <;> simp [hM]) ?_
    split
    · intro i hi
      rw [getD_set (by omega)]
      obtain ⟨h1, h2, h3⟩ := hl q (by simp)
      split
      · rename_i e; exact .inr ⟨by omega, by omega, h3⟩
      · exact h i hi
    · exact h
theorem Cut.settle {L : List Blk8} {p n : Nat} {S : DS} (h : Cut L p n S) (ht : S.Tied) (hlen : S.last.length = S.now.length) (kept : Nat → Bool) : Cut L p n (S.settle kept) := by
  have e := settle_now ht hlen kept
  have hl : ∀ i, i < L.length → (S.settle kept).last.getD i zeroB = L.getD i zeroB ∨ (p ≤ i ∧ i < p + n ∧ (S.settle kept).last.getD i zeroB = zeroB) :=
    lastOf_cut kept S.wait 0 S.last h.wait (by rw [hlen]; exact h.len) h.last
  exact ⟨(nowOf_len _ _ _).trans h.len, by rw [e]; exact hl, hl, fun q hq => by simp [DS.settle] at hq⟩
theorem Cut.zstep {L : List Blk8} {p n : Nat} {S : DS} (h : Cut L p n S) {k : Nat} (hk : k < n) (hn : p + n ≤ L.length) : Cut L p n (S.zstep (p + k)).1 := by
  have hp : p + k < S.now.length := by rw [h.len]; omega
  unfold DS.zstep
  split
  · exact h
  · split
    · exact h
    · rename_i h0 _
      have ho : S.off = false := by
        rw [at_in hp] at h0
        cases hoff : S.off
        · rfl
        · rw [hoff] at h0; simp at h0
      obtain ⟨w1, w2, w3, _, _⟩ := write_in ho hp zeroB
      refine ⟨by rw [w1]; simpa using h.len, fun i hi => ?_, by rw [w2]; exact h.last, fun q hq => ?_⟩
      · rw [w1, getD_set (by rw [h.len]; exact hi)]
        split
        · rename_i e; exact .inr ⟨by omega, by omega, rfl⟩
        · exact h.now i hi
      · rw [w3] at hq
        simp only [List.mem_append, List.mem_singleton] at hq
        rcases hq with hq | rfl
        · exact h.wait q hq
        · exact ⟨by show p ≤ p + k; omega, by show p + k < p + n; omega, rfl⟩
/-- A zeroing in its rounds: what is cut, and what is answered. -/
theorem zeros_cut {L : List Blk8} {p n : Nat} (hn : p + n ≤ L.length) : ∀ (m k : Nat) (S : DS) (N : Nat), k + m = n → S.Ok N → S.Tied → Cut L p n S → S.off = false → (∀ i, i < k → S.now.getD (p + i) zeroB = zeroB) →
    Cut L p n (S.zeros m (p + k)).1 ∧
      (((S.zeros m (p + k)).2 = 0 ∧ (S.zeros m (p + k)).1.off = false ∧ (S.zeros m (p + k)).1.wait = [] ∧ (∀ i, i < n → (S.zeros m (p + k)).1.now.getD (p + i) zeroB = zeroB)) ∨
        ((S.zeros m (p + k)).2 = 13 ∧ (S.zeros m (p + k)).1.off = true)) ∧ (S.armed = 0 → (S.zeros m (p + k)).2 = 0 ∧ (S.zeros m (p + k)).1.armed = 0)
  | 0, k, S, N, hk, hok, ht, hc, ho, hz => by
    have e : S.sync = (S.settle fun _ => true, 0) := by simp [DS.sync, ho]
    have e1 : (S.settle fun _ => true).now = S.now := (settle_now ht hok.len _).trans (by show lastOf _ 0 S.wait S.last = S.now; exact ht.now.symm)
    show Cut L p n S.sync.1 ∧ _
    unfold DS.zeros
    rw [e]
    refine ⟨hc.settle ht hok.len _, .inl ⟨rfl, ho, rfl, fun i hi => ?_⟩, fun h => ⟨rfl, h⟩⟩
    show (S.settle fun _ => true).now.getD (p + i) zeroB = zeroB
    rw [e1]
    exact hz i (by omega)
  | m + 1, k, S, N, hk, hok, ht, hc, ho, hz => by
    have hp : p + k < S.now.length := by rw [hc.len]; omega
    have h0 : S.at_ ((p + k : Nat) : Int) = 0 := by rw [at_in hp, ho]; rfl
    have hcs := hc.zstep (show k < n by omega) hn
    have hoks := zstep_ok hok (p + k)
    have hts := zstep_tied ht (p + k)
    unfold DS.zeros
    by_cases hb : S.now.getD (p + k) zeroB = zeroB
    · have e : S.zstep (p + k) = (S, 0) := by unfold DS.zstep; rw [if_neg (by simpa using h0), if_pos hb]
      rw [e] at hcs hoks hts ⊢
      rw [if_neg (by simp)]
      exact zeros_cut hn m (k + 1) S _ (by omega) hoks hts hcs ho (fun i hi => by
        by_cases h1 : i < k
        · exact hz i h1
        · have : i = k := by omega
          subst this; exact hb)
    · have e : S.zstep (p + k) = S.write ((p + k : Nat) : Int) zeroB := by unfold DS.zstep; rw [if_neg (by simpa using h0), if_neg hb]
      obtain ⟨w1, w2, w3, w4, w5⟩ := write_in ho hp zeroB
      rw [e] at hcs hoks hts ⊢
      rcases w4 with ⟨a, b⟩ | ⟨a, b⟩
      · rw [if_neg (by rw [a]; decide)]
        have ih := zeros_cut hn m (k + 1) _ _ (by omega) hoks hts hcs b (fun i hi => by
          rw [w1, getD_set (by rw [hc.len]; omega)]
          split
          · rfl
          · exact hz i (by omega))
        exact ⟨ih.1, ih.2.1, fun h => ih.2.2 (w5 h).2⟩
      · rw [if_pos (by rw [a]; decide)]
        exact ⟨hcs, .inr ⟨a, b⟩, fun h => by have := (w5 h).1; rw [a] at this; cases this⟩
theorem Cut.crash {L : List Blk8} {p n : Nat} {S : DS} (h : Cut L p n S) (ht : S.Tied) (hlen : S.last.length = S.now.length) (keep : List Bool) : Cut L p n (S.crash keep) :=
  let h' := h.settle ht hlen (fun k => keep.getD k false)
  ⟨h'.len, h'.now, h'.last, h'.wait⟩
end Go.Cu
