/- Part 4 of the texts below this law, put together: what each holds is said at its head. -/
import Derived.Test.YthmchbdhikakhaaJa3
import Derived.Lib.SlBytesConst
import Derived.Lib.BufferWrite
/- What the blocks of a journal hold, and what a crash leaves of them: plainly. No program. -/
namespace Go.Cu
/-- The journal J holds the records rs from its place on; J' is behind them. -/
def Laid (L : List Blk8) : Jn → List (List UInt8) → Jn → Prop
  | J, [], J' => J' = J
  | J, r :: rs, J' => r.length ≤ 65535 ∧ blocksN r.length ≤ J.size - J.used ∧ (∀ k, k < blocksN r.length → L.getD (J.first + J.used + k) zeroB = blockB J.n k r) ∧ Laid L (J.more r.length) rs J'
/-- Behind J's records there is no head. -/
def Bare (L : List Blk8) (J : Jn) : Prop := ∀ i, J.used ≤ i → i < J.size → (L.getD (J.first + i) zeroB).headD 0 ≠ 1
theorem Laid.facts {L : List Blk8} : ∀ {rs : List (List UInt8)} {J J' : Jn}, Laid L J rs J' → J.used ≤ J.size → J'.first = J.first ∧ J'.size = J.size ∧ J'.n = J.n + rs.length ∧ J.used + rs.length ≤ J'.used ∧ J'.used ≤ J'.size
  | [], J, J', h, hu => by cases h; exact ⟨rfl, rfl, rfl, Nat.le_refl _, hu⟩
  | r :: rs, J, J', h, hu => by
    obtain ⟨_, h2, _, h4⟩ := h
    have hb := blocksN_pos r.length
    have hf := h4.facts (by show J.used + blocksN r.length ≤ J.size; omega)
    obtain ⟨f1, f2, f3, f4, f5⟩ := hf
    refine ⟨f1, f2, ?_, ?_, f5⟩
    · rw [f3, List.length_cons]; show J.n + 1 + rs.length = _; omega
    · rw [List.length_cons]; have : (J.more r.length).used = J.used + blocksN r.length := rfl; omega
theorem Laid.congr {L L' : List Blk8} : ∀ {rs : List (List UInt8)} {J J' : Jn}, Laid L J rs J' → J.used ≤ J.size → (∀ i, J.used ≤ i → i < J'.used → L'.getD (J.first + i) zeroB = L.getD (J.first + i) zeroB) → Laid L' J rs J'
  | [], _, _, h, _, _ => h
  | r :: rs, J, J', h, hu, hc => by
    obtain ⟨h1, h2, h3, h4⟩ := h
    have hb := blocksN_pos r.length
    have hu' : (J.more r.length).used ≤ (J.more r.length).size := by show J.used + blocksN r.length ≤ J.size; omega
    obtain ⟨f1, f2, f3, f4, f5⟩ := h4.facts hu'
    have hm : (J.more r.length).used = J.used + blocksN r.length := rfl
    refine ⟨h1, h2, fun k hk => ?_, h4.congr hu' fun i hi hi' => hc i (by omega) hi'⟩
    have := hc (J.used + k) (by omega) (by omega)
    rw [← Nat.add_assoc] at this
    rw [this, h3 k hk]
theorem Laid.snoc {L : List Blk8} {r : List UInt8} : ∀ {rs : List (List UInt8)} {J J' : Jn}, Laid L J rs J' → r.length ≤ 65535 → blocksN r.length ≤ J'.size - J'.used → (∀ k, k < blocksN r.length → L.getD (J'.first + J'.used + k) zeroB = blockB J'.n k r) → Laid L J (rs ++ [r]) (J'.more r.length)
  | [], J, J', h, h1, h2, h3 => by cases h; exact ⟨h1, h2, h3, rfl⟩
  | q :: rs, J, J', h, h1, h2, h3 => by
    obtain ⟨a1, a2, a3, a4⟩ := h
    exact ⟨a1, a2, a3, a4.snoc h1 h2 h3⟩
theorem Laid.same {L L' : List Blk8} : ∀ {rs : List (List UInt8)} {J J' J'' : Jn}, Laid L J rs J' → Laid L' J rs J'' → J' = J''
  | [], _, _, _, h, h' => by cases h; cases h'; rfl
  | _ :: _, _, _, _, h, h' => h.2.2.2.same h'.2.2.2

/-! What is read of what was laid. -/
theorem chunk_join (r : List UInt8) : ∀ m, 117 * m ≤ r.length → ((List.range m).flatMap fun k => padL (chunkL k r)) = r.take (117 * m)
  | 0, _ => by simp
  | m + 1, h => by
    rw [List.range_succ, List.flatMap_append, chunk_join r m (by omega), List.flatMap_singleton]
    have hc : (chunkL m r).length = 117 := by simp [chunkL]; omega
    unfold padL
    rw [hc, Nat.sub_self, List.replicate_zero, List.append_nil]
    unfold chunkL
    rw [show 117 * (m + 1) = 117 * m + 117 by omega, List.take_add]
theorem chunk_all (r : List UInt8) {m : Nat} (h1 : 117 * m ≤ r.length) (h2 : r.length ≤ 117 * (m + 1)) : ((List.range (m + 1)).flatMap fun k => padL (chunkL k r)).take r.length = r := by
  rw [List.range_succ, List.flatMap_append, chunk_join r m h1, List.flatMap_singleton]
  have hc : chunkL m r = r.drop (117 * m) := by
    unfold chunkL
    exact List.take_of_length_le (by rw [List.length_drop]; omega)
  rw [hc]
  unfold padL
  rw [← List.append_assoc, List.take_append_drop, List.take_left]
theorem blockB_drop (n k : Nat) (r : List UInt8) : (blockB n k r).drop 11 = padL (chunkL k r) := by
  unfold blockB
  split
  · exact List.drop_left' (headL_len _ _)
  · exact List.drop_left' restL_len
theorem blockB_take (n : Nat) (r : List UInt8) : (blockB n 0 r).take 11 = headL n r.length := by
  unfold blockB
  rw [if_pos rfl]
  exact List.take_left' (headL_len _ _)
theorem headL_get (n s : Nat) (l : List UInt8) : (headL n s ++ l).getD 9 0 = UInt8.ofNat (s / 256) ∧ (headL n s ++ l).getD 10 0 = UInt8.ofNat s := by
  have hb := be8_len n
  have e9 : (headL n s ++ l)[9]? = some (UInt8.ofNat (s / 256)) := by
    unfold headL
    rw [List.cons_append, List.getElem?_cons_succ, List.append_assoc, List.getElem?_append_right (by omega), hb]
    rfl
  have e10 : (headL n s ++ l)[10]? = some (UInt8.ofNat s) := by
    unfold headL
    rw [List.cons_append, List.getElem?_cons_succ, List.append_assoc, List.getElem?_append_right (by omega), hb]
    rfl
  exact ⟨by rw [List.getD_eq_getElem?_getD, e9]; rfl, by rw [List.getD_eq_getElem?_getD, e10]; rfl⟩
theorem blockB_size (n : Nat) (r : List UInt8) (h : r.length ≤ 65535) : sizeOfB (blockB n 0 r) = r.length := by
  unfold blockB sizeOfB
  rw [if_pos rfl]
  obtain ⟨h1, h2⟩ := headL_get n r.length (padL (chunkL 0 r))
  rw [h1, h2, UInt8.toNat_ofNat', UInt8.toNat_ofNat']
  omega
theorem blockB_head0 (n : Nat) (r : List UInt8) : (blockB n 0 r).headD 0 = 1 := by
  unfold blockB headL
  rw [if_pos rfl]
  rfl
theorem blockB_rest0 (n : Nat) {k : Nat} (hk : k ≠ 0) (r : List UInt8) : (blockB n k r).headD 0 = 2 := by
  unfold blockB restL
  rw [if_neg hk]
  rfl
theorem next_laid {L : List Blk8} {J : Jn} {r : List UInt8} (h1 : r.length ≤ 65535) (h2 : blocksN r.length ≤ J.size - J.used) (h3 : ∀ k, k < blocksN r.length → L.getD (J.first + J.used + k) zeroB = blockB J.n k r) : nextR L J = some r := by
  have hb := blocksN_pos r.length
  have h0 : L.getD (J.first + J.used) zeroB = blockB J.n 0 r := h3 0 (by omega)
  unfold nextR
  rw [if_neg (by omega), h0, blockB_size _ _ h1, if_pos ⟨blockB_take _ _, h2⟩]
  congr 1
  have e : ((List.range (blocksN r.length)).flatMap fun k => (L.getD (J.first + J.used + k) zeroB).drop 11) = (List.range (blocksN r.length)).flatMap fun k => padL (chunkL k r) := by
    rw [List.flatMap_def, List.flatMap_def]
    congr 1
    refine List.map_congr_left fun k hk => ?_
    rw [h3 k (List.mem_range.1 hk), blockB_drop]
  rw [e]
  obtain ⟨m, hm⟩ : ∃ m, blocksN r.length = m + 1 := ⟨blocksN r.length - 1, by omega⟩
  rw [hm]
  exact chunk_all r (by unfold blocksN at hm; omega) (by have := blocksN_fits r.length; rw [hm] at this; exact this)
theorem next_bare {L : List Blk8} {J : Jn} (h : Bare L J) (hu : J.used ≤ J.size) : nextR L J = none := by
  unfold nextR
  split
  · rfl
  · rename_i hne
    rw [if_neg]
    rintro ⟨h1, _⟩
    have h2 := h J.used (Nat.le_refl _) (by omega)
    have h3 := congrArg (fun l => l.headD 0) h1
    apply h2
    cases hl : L.getD (J.first + J.used) zeroB with
    | nil => rw [hl] at h3; exact h3
    | cons a l => rw [hl] at h3; exact h3
theorem read_laid {L : List Blk8} : ∀ {rs : List (List UInt8)} {J J' : Jn} {f : Nat}, Laid L J rs J' → J.used ≤ J.size → Bare L J' → rs.length ≤ f → readR L f J = (rs, J')
  | [], J, J', f, h, hu, hb, _ => by
    cases h
    cases f with
    | zero => rfl
    | succ f => rw [readR, next_bare hb hu]
  | r :: rs, J, J', f, h, hu, hb, hf => by
    obtain ⟨h1, h2, h3, h4⟩ := h
    cases f with
    | zero => cases hf
    | succ f =>
      have hp := blocksN_pos r.length
      rw [readR, next_laid h1 h2 h3]
      dsimp only
      rw [read_laid h4 (by show J.used + blocksN r.length ≤ J.size; omega) hb (by simpa using hf)]

/-! What a write does where the power is on. -/
theorem write_on {S : DS} {i : Nat} {b : Blk8} (ho : S.off = false) (hi : i < S.now.length) : ∃ a o e, S.write (i : Int) b = ({ S.put i b with armed := a, off := o }, e) ∧ (e = 0 ∧ o = false ∨ e = 13 ∧ o = true) ∧ (S.armed = 0 → a = 0 ∧ o = false) := by
  have h0 : S.at_ (i : Int) = 0 := by
    unfold DS.at_
    rw [ho]
    simp only [Bool.false_eq_true, if_false]
    rw [if_neg (by omega)]
  unfold DS.write
  rw [h0, if_neg (by decide), Int.toNat_natCast]
  unfold DS.tick
  split
  · rename_i ha
    exact ⟨S.armed, S.off, 0, rfl, .inl ⟨rfl, ho⟩, fun h => ⟨h, ho⟩⟩
  · rename_i ha
    split
    · exact ⟨S.armed - 1, S.off, 0, rfl, .inl ⟨rfl, ho⟩, fun h => absurd h ha⟩
    · exact ⟨S.armed - 1, true, 13, rfl, .inr ⟨rfl, rfl⟩, fun h => absurd h ha⟩
/-- What lasts of writes: each place has what it had, or one of the writes to it. -/
theorem lastOf_get (kept : Nat → Bool) (j : Nat) : ∀ (l : List (Nat × Blk8)) (k : Nat) (L : List Blk8), (lastOf kept k l L).getD j zeroB = L.getD j zeroB ∨ ∃ p ∈ l, p.1 = j ∧ (lastOf kept k l L).getD j zeroB = p.2
  | [], _, _ => .inl rfl
  | p :: l, k, L => by
    rw [lastOf]
    rcases lastOf_get kept j l (k + 1) (if kept k then L.set p.1 p.2 else L) with h | ⟨q, hq, h1, h2⟩
    · rw [h]
      split
      · by_cases e : p.1 = j
        · by_cases hj : j < L.length
          · refine .inr ⟨p, by simp, e, ?_⟩
            rw [e, List.getD_eq_getElem?_getD, List.getElem?_set_self hj]; rfl
          · refine .inl ?_
            rw [List.set_eq_of_length_le (by omega)]
        · refine .inl ?_
          rw [List.getD_eq_getElem?_getD, List.getElem?_set_ne e, List.getD_eq_getElem?_getD]
      · exact .inl rfl
    · exact .inr ⟨q, List.mem_cons_of_mem _ hq, h1, h2⟩
/-- A write behind the records: in J's room, and no head. -/
def Behind (J : Jn) (l : List (Nat × Blk8)) : Prop := ∀ p ∈ l, ∃ i, J.used ≤ i ∧ i < J.size ∧ p.1 = J.first + i ∧ p.2.headD 0 ≠ 1
theorem Behind.laid {J0 J : Jn} {l : List (Nat × Blk8)} {L : List Blk8} {rs : List (List UInt8)} (h : Behind J l) (hl : Laid L J0 rs J) (h0 : J0.used ≤ J0.size) (kept : Nat → Bool) (k : Nat) : Laid (lastOf kept k l L) J0 rs J := by
  obtain ⟨f1, f2, f3, f4, f5⟩ := hl.facts h0
  refine hl.congr h0 fun i hi hi' => ?_
  rcases lastOf_get kept (J0.first + i) l k L with e | ⟨p, hp, e, _⟩
  · exact e
  · obtain ⟨i', g1, g2, g3, _⟩ := h p hp
    omega
theorem Behind.bare {J : Jn} {l : List (Nat × Blk8)} {L : List Blk8} (h : Behind J l) (hb : Bare L J) (kept : Nat → Bool) (k : Nat) : Bare (lastOf kept k l L) J := by
  intro i hi hi'
  rcases lastOf_get kept (J.first + i) l k L with e | ⟨p, hp, e, e2⟩
  · rw [e]; exact hb i hi hi'
  · obtain ⟨_, _, _, _, g⟩ := h p hp
    rw [e2]; exact g

/-- A journal's disk where all lasts. -/
structure Quiet (S : DS) (J0 : Jn) (rs : List (List UInt8)) (J : Jn) : Prop where
  wait : S.wait = []
  now : S.now = S.last
  on : S.off = false
  fits : J0.first + J0.size ≤ S.now.length
  used : J0.used ≤ J0.size
  laid : Laid S.last J0 rs J
  bare : Bare S.last J
/-- A journal's disk where the power went off as rec was under way. -/
structure Fallen (S : DS) (J0 : Jn) (rs : List (List UInt8)) (rec : List UInt8) : Prop where
  off : S.off = true
  then_ : ∀ keep, ∃ rs' J', (rs' = rs ∨ rs' = rs ++ [rec]) ∧ Quiet (S.crash keep) J0 rs' J'
theorem Quiet.tied {S : DS} {J0 J : Jn} {rs : List (List UInt8)} (h : Quiet S J0 rs J) : S.Tied := ⟨by rw [h.now, h.wait]; rfl⟩
theorem Quiet.crash {S : DS} {J0 J : Jn} {rs : List (List UInt8)} (h : Quiet S J0 rs J) (keep : List Bool) : Quiet (S.crash keep) J0 rs J := by
  have e1 : (S.crash keep).last = S.last := by simp [DS.crash, DS.settle, h.wait, lastOf]
  have e2 : (S.crash keep).now = S.now := by simp [DS.crash, DS.settle, h.wait, nowOf]
  exact ⟨rfl, by rw [e1, e2, h.now], rfl, by rw [e2]; exact h.fits, h.used, by rw [e1]; exact h.laid, by rw [e1]; exact h.bare⟩
theorem Quiet.arm {S : DS} {J0 J : Jn} {rs : List (List UInt8)} (h : Quiet S J0 rs J) (n : Int) : Quiet (S.arm n) J0 rs J := ⟨h.wait, h.now, h.on, h.fits, h.used, h.laid, h.bare⟩
theorem Quiet.read {S : DS} {J0 J : Jn} {rs : List (List UInt8)} (h : Quiet S J0 rs J) {f : Nat} (hf : J0.size ≤ f) : readR S.now f J0 = (rs, J) := by
  obtain ⟨f1, f2, f3, f4, f5⟩ := h.laid.facts h.used
  rw [h.now]
  exact read_laid h.laid h.used h.bare (by omega)

/-! A disk on which a record's blocks behind the head are written. -/
/-- Writes under way, all behind the records. -/
structure Busy (S : DS) (J0 : Jn) (rs : List (List UInt8)) (J : Jn) : Prop where
  tied : S.Tied
  len : S.last.length = S.now.length
  fits : J0.first + J0.size ≤ S.now.length
  used : J0.used ≤ J0.size
  laid : Laid S.last J0 rs J
  bare : Bare S.last J
  behind : Behind J S.wait
section
variable {S : DS} {J0 J : Jn} {rs : List (List UInt8)} {rec : List UInt8}
theorem Quiet.busy (h : Quiet S J0 rs J) : Busy S J0 rs J := ⟨h.tied, by rw [h.now], h.fits, h.used, h.laid, h.bare, by intro p hp; rw [h.wait] at hp; cases hp⟩
theorem Busy.crash (h : Busy S J0 rs J) (keep : List Bool) : Quiet (S.crash keep) J0 rs J := by
  have hc : (S.crash keep).now = (S.crash keep).last := settle_now h.tied h.len fun k => keep.getD k false
  refine ⟨rfl, hc, rfl, ?_, h.used, h.behind.laid h.laid h.used _ _, h.behind.bare h.bare _ _⟩
  have : (S.crash keep).now.length = S.now.length := nowOf_len _ _ _
  rw [this]; exact h.fits
theorem Busy.sync (h : Busy S J0 rs J) (ho : S.off = false) : S.sync = (S.settle (fun _ => true), 0) ∧ Quiet S.sync.1 J0 rs J := by
  have e : S.sync = (S.settle (fun _ => true), 0) := by unfold DS.sync; rw [if_neg (by rw [ho]; decide)]
  refine ⟨e, ?_⟩
  rw [e]
  have hc := settle_now h.tied h.len fun _ => true
  refine ⟨rfl, hc, ho, ?_, h.used, h.behind.laid h.laid h.used _ _, h.behind.bare h.bare _ _⟩
  have : (S.settle fun _ => true).now.length = S.now.length := nowOf_len _ _ _
  rw [this]; exact h.fits
theorem Busy.put (h : Busy S J0 rs J) {i : Nat} {b : Blk8} (hi : J.used ≤ i) (hi' : i < J.size) (hb : b.headD 0 ≠ 1) (a : Int) (o : Bool) : Busy { S.put (J.first + i) b with armed := a, off := o } J0 rs J := by
  refine ⟨⟨(h.tied.put (J.first + i) b).now⟩, ?_, ?_, h.used, h.laid, h.bare, ?_⟩
  · show S.last.length = (S.now.set _ _).length
    rw [List.length_set]; exact h.len
  · show _ ≤ (S.now.set _ _).length
    rw [List.length_set]; exact h.fits
  · intro p hp
    rcases List.mem_append.1 hp with hp | hp
    · exact h.behind p hp
    · obtain rfl := List.mem_singleton.1 hp
      exact ⟨i, hi, hi', rfl, hb⟩
/-- The blocks behind the head, from the k-th on. -/
theorem Busy.tailS : ∀ (m k : Nat) {S : DS}, Busy S J0 rs J → S.off = false → 1 ≤ k → J.used + k + m ≤ J.size →
    ∃ T e, S.tailS J rec m k = (T, e) ∧ Busy T J0 rs J ∧ T.last = S.last ∧ T.now.length = S.now.length ∧ (S.armed = 0 → T.armed = 0 ∧ e = 0) ∧ (e = 13 ∧ T.off = true ∨ e = 0 ∧ T.off = false ∧
      (∀ i, k ≤ i → i < k + m → T.now.getD (J.first + J.used + i) zeroB = blockB J.n i rec) ∧ ∀ q, (∀ i, k ≤ i → i < k + m → q ≠ J.first + J.used + i) → T.now.getD q zeroB = S.now.getD q zeroB)
  | 0, k, S, h, ho, _, _ => ⟨S, 0, rfl, h, rfl, rfl, fun h => ⟨h, rfl⟩, .inr ⟨rfl, ho, fun i h1 h2 => by omega, fun _ _ => rfl⟩⟩
  | m + 1, k, S, h, ho, hk, hm => by
    obtain ⟨f1, f2, f3, f4, f5⟩ := h.laid.facts h.used
    have hin : J.first + J.used + k < S.now.length := by have := h.fits; omega
    obtain ⟨a, o, e, hw, heo, hz⟩ := write_on (b := blockB J.n k rec) ho hin
    have hB : Busy { S.put (J.first + J.used + k) (blockB J.n k rec) with armed := a, off := o } J0 rs J := by
      rw [Nat.add_assoc]
      exact h.put (by omega) (by omega) (by rw [blockB_rest0 _ (by omega)]; decide) a o
    have hlen : (S.now.set (J.first + J.used + k) (blockB J.n k rec)).length = S.now.length := List.length_set
    have hself : (S.now.set (J.first + J.used + k) (blockB J.n k rec)).getD (J.first + J.used + k) zeroB = blockB J.n k rec := by
      rw [List.getD_eq_getElem?_getD, List.getElem?_set_self hin]; rfl
    have hother : ∀ q, q ≠ J.first + J.used + k → (S.now.set (J.first + J.used + k) (blockB J.n k rec)).getD q zeroB = S.now.getD q zeroB := fun q hq => by
      rw [List.getD_eq_getElem?_getD, List.getElem?_set_ne (fun e => hq e.symm), List.getD_eq_getElem?_getD]
    rcases heo with ⟨rfl, rfl⟩ | ⟨rfl, rfl⟩
    · rw [tailS_go (by rw [hw]), hw]
      obtain ⟨T, e, h1, h2, h3, h4, h5, h6⟩ := Busy.tailS m (k + 1) hB rfl (by omega) (by omega)
      refine ⟨T, e, h1, h2, h3, h4.trans hlen, fun h => h5 (hz h).1, ?_⟩
      rcases h6 with h6 | ⟨h6, h7, h8, h9⟩
      · exact .inl h6
      · refine .inr ⟨h6, h7, fun i hi hi' => ?_, fun q hq => ?_⟩
        · rcases Nat.lt_or_ge k i with h | h
          · exact h8 i (by omega) (by omega)
          · obtain rfl : i = k := by omega
            rw [h9 _ (fun j hj _ e => by omega)]
            exact hself
        · rw [h9 q (fun j hj hj' => hq j (by omega) (by omega))]
          exact hother q (hq k (by omega) (by omega))
    · rw [tailS_stop (by rw [hw]; simp), hw]
      exact ⟨_, _, rfl, hB, rfl, hlen, fun h => (by have := (hz h).2; cases this), .inl ⟨rfl, rfl⟩⟩
/-- What an append does where all lasts. -/
theorem Quiet.append (h : Quiet S J0 rs J) (hl : rec.length ≤ 65535) : ∃ T e, S.append J rec = (T, e) ∧ T.now.length = S.now.length ∧ (S.armed = 0 → T.armed = 0 ∧ e ≠ 13) ∧
    (J.size - J.used < blocksN rec.length ∧ e = 7 ∧ T = S ∨ blocksN rec.length ≤ J.size - J.used ∧ (e = 0 ∧ Quiet T J0 (rs ++ [rec]) (J.more rec.length) ∨ e = 13 ∧ Fallen T J0 rs rec)) := by
  unfold DS.append
  rw [if_neg (by omega)]
  by_cases hfull : J.size - J.used < blocksN rec.length
  · rw [if_pos hfull]
    exact ⟨S, 7, rfl, rfl, fun h => ⟨h, by decide⟩, .inl ⟨hfull, rfl, rfl⟩⟩
  rw [if_neg hfull]
  have hnb := blocksN_pos rec.length
  obtain ⟨f1, f2, f3, f4, f5⟩ := h.laid.facts h.used
  obtain ⟨T, e, hT, hB, hlast, hlen, harm, hres⟩ := h.busy.tailS (rec := rec) (blocksN rec.length - 1) 1 h.on (Nat.le_refl _) (by omega)
  rcases hres with ⟨rfl, hoff⟩ | ⟨rfl, hon, hin, hout⟩
  · have hA : S.tailA J rec = (T, 13) := by unfold DS.tailA; rw [hT, if_pos (by simp)]
    rw [hA, if_pos (by simp)]
    refine ⟨T, 13, rfl, hlen, fun h => (by have := (harm h).2; cases this), .inr ⟨by omega, .inr ⟨rfl, hoff, fun keep => ⟨rs, J, .inl rfl, hB.crash keep⟩⟩⟩⟩
  · -- the tail lasts
    obtain ⟨U, hA, hU, hUn, hUl, hUa⟩ : ∃ U, S.tailA J rec = (U, 0) ∧ Quiet U J0 rs J ∧ U.now.length = S.now.length ∧ (∀ k, 1 ≤ k → k < blocksN rec.length → U.last.getD (J.first + J.used + k) zeroB = blockB J.n k rec) ∧ (S.armed = 0 → U.armed = 0) := by
      by_cases hone : blocksN rec.length = 1
      · have e1 : S.tailS J rec (blocksN rec.length - 1) 1 = (S, 0) := by rw [hone]; rfl
        refine ⟨S, ?_, h, rfl, fun k h1 h2 => by omega, id⟩
        unfold DS.tailA
        rw [e1, if_neg (by simp), if_pos hone]
      · obtain ⟨hs, hq⟩ := hB.sync hon
        refine ⟨T.sync.1, ?_, hq, ?_, ?_, fun h => ?_⟩
        · unfold DS.tailA
          rw [hT, if_neg (by simp), if_neg hone, hs]
        · rw [hs]
          exact (nowOf_len _ _ _).trans hlen
        · intro k h1 h2
          have e1 : T.sync.1.last = T.now := by
            rw [hs, hB.tied.now]; rfl
          rw [e1]
          exact hin k h1 (by omega)
        · rw [hs]; exact (harm h).1
    rw [hA, if_neg (by simp)]
    unfold DS.headA
    have hpos : J.first + J.used < U.now.length := by have := h.fits; omega
    obtain ⟨a, o, e, hw, heo, hz⟩ := write_on (b := blockB J.n 0 rec) hU.on hpos
    rw [hw]
    -- where the head lasts
    have hgood : Laid (U.last.set (J.first + J.used) (blockB J.n 0 rec)) J0 (rs ++ [rec]) (J.more rec.length) ∧ Bare (U.last.set (J.first + J.used) (blockB J.n 0 rec)) (J.more rec.length) := by
      have hself : (U.last.set (J.first + J.used) (blockB J.n 0 rec)).getD (J.first + J.used) zeroB = blockB J.n 0 rec := by
        rw [List.getD_eq_getElem?_getD, List.getElem?_set_self (by rw [← hU.now]; exact hpos)]; rfl
      have hother : ∀ q, q ≠ J.first + J.used → (U.last.set (J.first + J.used) (blockB J.n 0 rec)).getD q zeroB = U.last.getD q zeroB := fun q hq => by
        rw [List.getD_eq_getElem?_getD, List.getElem?_set_ne (fun e => hq e.symm), List.getD_eq_getElem?_getD]
      constructor
      · refine (hU.laid.congr hU.used fun i hi hi' => hother _ (by omega)).snoc hl (by omega) fun k hk => ?_
        rcases Nat.eq_zero_or_pos k with rfl | hk0
        · exact hself
        · rw [hother _ (by omega)]
          exact hUl k hk0 hk
      · intro i hi hi'
        have e1 : (J.more rec.length).used = J.used + blocksN rec.length := rfl
        have e2 : (J.more rec.length).first = J.first := rfl
        have e3 : (J.more rec.length).size = J.size := rfl
        rw [e2, hother _ (by omega)]
        exact hU.bare i (by omega) (by omega)
    have hfits : J0.first + J0.size ≤ (U.now.set (J.first + J.used) (blockB J.n 0 rec)).length := by rw [List.length_set]; exact hU.fits
    have hws : ∀ kept : Nat → Bool, lastOf kept 0 (U.wait ++ [(J.first + J.used, blockB J.n 0 rec)]) U.last = if kept 0 then U.last.set (J.first + J.used) (blockB J.n 0 rec) else U.last := fun kept => by rw [hU.wait]; rfl
    have htd : ∀ kept, (({ U.put (J.first + J.used) (blockB J.n 0 rec) with armed := a, off := o } : DS).settle kept).now = (({ U.put (J.first + J.used) (blockB J.n 0 rec) with armed := a, off := o } : DS).settle kept).last := fun kept =>
      settle_now ⟨(hU.tied.put _ _).now⟩ (by show U.last.length = (U.now.set _ _).length; rw [List.length_set, hU.now]) kept
    have hnl : ∀ kept, (({ U.put (J.first + J.used) (blockB J.n 0 rec) with armed := a, off := o } : DS).settle kept).now.length = (U.now.set (J.first + J.used) (blockB J.n 0 rec)).length := fun kept => nowOf_len _ _ _
    rcases heo with ⟨rfl, rfl⟩ | ⟨rfl, rfl⟩
    · rw [if_neg (by simp)]
      have hs : (({ U.put (J.first + J.used) (blockB J.n 0 rec) with armed := a, off := false } : DS).sync) = (({ U.put (J.first + J.used) (blockB J.n 0 rec) with armed := a, off := false } : DS).settle (fun _ => true), 0) := by unfold DS.sync; rw [if_neg (by simp)]
      refine ⟨_, _, hs, ?_, fun hh => ⟨(hz (hUa hh)).1, by decide⟩, .inr ⟨by omega, .inl ⟨rfl, rfl, htd _, rfl, by rw [hnl]; exact hfits, hU.used, ?_, ?_⟩⟩⟩
      · rw [hnl, List.length_set]; exact hUn
      · show Laid (lastOf _ 0 (U.wait ++ _) U.last) _ _ _
        rw [hws, if_pos rfl]; exact hgood.1
      · show Bare (lastOf _ 0 (U.wait ++ _) U.last) _
        rw [hws, if_pos rfl]; exact hgood.2
    · rw [if_pos (by simp)]
      refine ⟨_, _, rfl, ?_, fun hh => (by have := (hz (hUa hh)).2; cases this), .inr ⟨by omega, .inr ⟨rfl, rfl, fun keep => ?_⟩⟩⟩
      · show (U.now.set _ _).length = _
        rw [List.length_set]; exact hUn
      · by_cases hk : keep.getD 0 false = true
        · refine ⟨rs ++ [rec], J.more rec.length, .inr rfl, rfl, htd _, rfl, ?_, hU.used, ?_, ?_⟩
          · exact Nat.le_trans hfits (Nat.le_of_eq (hnl fun k => keep.getD k false).symm)
          · show Laid (lastOf _ 0 (U.wait ++ _) U.last) _ _ _
            rw [hws, if_pos hk]; exact hgood.1
          · show Bare (lastOf _ 0 (U.wait ++ _) U.last) _
            rw [hws, if_pos hk]; exact hgood.2
        · refine ⟨rs, J, .inl rfl, rfl, htd _, rfl, ?_, hU.used, ?_, ?_⟩
          · exact Nat.le_trans hfits (Nat.le_of_eq (hnl fun k => keep.getD k false).symm)
          · show Laid (lastOf _ 0 (U.wait ++ _) U.last) _ _ _
            rw [hws, if_neg hk]; exact hU.laid
          · show Bare (lastOf _ 0 (U.wait ++ _) U.last) _
            rw [hws, if_neg hk]; exact hU.bare
end
end Go.Cu
/- Open: the records that are there. -/
namespace Go.Proofs.Ythmchbdhikakhaa
open Go.RowKit Go.Cu
def lenOf : Value → Nat
  | .slice _ n _ => n
  | _ => 0
theorem info22 : (Try.prog.info? 22).map (fun i => (i.zero, i.size, i.bytes)) = some (some (.slice none 0 0), 1, 24) := by kernel_rfl
theorem zero22 (W : World) : (zeroValue 22).run Try.prog W = .ok (.slice none 0 0) W := by kernel_rfl
theorem size22 : (Try.prog.info? 22).map (·.size) = some 1 := by kernel_rfl
theorem open_nil (f s : Int) (w : World) : Calls Try.prog 42 #[.pointer none, .int .i64 f, .int .i64 s] w fun r w' => r = .returned (.tuple #[.pointer none, .slice none 0 0, .int .i64 1]) ∧ w = w' := by
  go_enter Try.func42, Try.ntmps42
  go_wp2_with (go_at_call 62; (with_reducible refine (fits_nil _ _ _).mono ?_); rintro r w1 ⟨rfl, rfl⟩)
  go_ret3
  exact ⟨rfl, rfl⟩
section
variable {W0 W : World} {L : List Atm} {p : Nat} {S : DS} {N : Nat}
theorem open_bad (h : St W0 (Disk p S :: L) W) (hok : S.Ok N) {f s n : Int} (hn : n = S.now.length) (hb : ¬ fitsI n f s) :
    Calls Try.prog 42 #[.pointer (some ⟨p, 0, none⟩), .int .i64 f, .int .i64 s] W fun r w' => r = .returned (.tuple #[.pointer none, .slice none 0 0, .int .i64 1]) ∧ W = w' := by
  have HF := hid (fits_bad h hok hn hb)
  clear h hok hn hb
  go_enter Try.func42, Try.ntmps42
  go_wp2_with (go_at_call 62; (with_reducible refine HF.out.mono ?_); rintro r w1 ⟨rfl, rfl⟩)
  go_ret3
  exact ⟨rfl, rfl⟩
/-- What is read does not hang on how often, once it is often enough. -/
theorem nextR_used {now : List Blk8} {J : Jn} {r : List UInt8} (h : nextR now J = some r) (hs : ∀ b ∈ now, b.length = 128) : J.used ≠ J.size ∧ blocksN r.length ≤ J.size - J.used := by
  unfold nextR at h
  split at h
  · cases h
  · rename_i hne
    split at h
    · rename_i hc
      refine ⟨hne, ?_⟩
      have hl := Option.some.inj h
      have hlen : r.length = sizeOfB (now.getD (J.first + J.used) zeroB) := by
        rw [← hl, List.length_take]
        have := joinB_len hs (J.first + J.used) (blocksN (sizeOfB (now.getD (J.first + J.used) zeroB)))
        unfold joinB at this
        rw [this]
        have := blocksN_fits (sizeOfB (now.getD (J.first + J.used) zeroB))
        omega
      rw [hlen]
      exact hc.2
    · cases h
set_option maxRecDepth 20000 in
set_option maxHeartbeats 4000000 in
theorem open_st (h : St W0 (Disk p S :: L) W) (hok : S.Ok N) (hoff : S.off = false) {first size : Nat} (h1 : 1 ≤ size) (h2 : first + size ≤ S.now.length) {R : List (List UInt8)} {JR : Jn} (hR : readR S.now size ⟨first, size, 0, 0⟩ = (R, JR)) :
    Calls Try.prog 42 #[.pointer (some ⟨p, 0, none⟩), .int .i64 first, .int .i64 size] W fun r w' => ∃ (j : Nat) (A : Option Addr) (c : Nat) (xs : List Value), r = .returned (.tuple #[.pointer (some ⟨j, 0, none⟩), .slice A R.length c, .int .i64 0]) ∧
      St W0 (Row (.slice A R.length c) 22 1 R.length xs :: Vals xs R :: Disk p S :: Blk j (jourV p JR) 114 :: L) w' := by
  have HF := hid (fits_ok (f := first) (s := size) h hok rfl ⟨by omega, by omega, by omega, by omega⟩)
  have hbig := hok.big
  have HH := hid h
  have HOK := hid hok
  have HR := hid hR
  obtain ⟨i22, hi, hiz, his, hib⟩ := info_parts info22
  have HI := hid (And.intro hi (And.intro hiz (And.intro his hib)))
  clear h hok hR hi hiz his hib
  go_enter Try.func42, Try.ntmps42
  go_wp2_with (first | (go_at_call 62; (with_reducible refine HF.out.mono ?_); rintro r w1 ⟨rfl, rfl⟩) | (refine wpList_box rfl 114 _ rfl (.agg (jourV p ⟨first, size, 0, 0⟩)) rfl ?_; intro j W1 hj hjl hjg hW1; have H1 := hid (HH.out.newBlk hW1 hjg hj).at2; clear hj hjl hjg hW1))
  go_loopw [10, 11, 12, 13] (fun o _ _ _ X => ∃ (f : Nat) (J : Jn) (A : Option Addr) (c : Nat) (rs R' : List (List UInt8)) (xs : List Value), J.first = first ∧ J.size = size ∧ J.used ≤ size ∧ J.n ≤ J.used ∧ Hid (rs.length = J.n) ∧ size - J.used ≤ f ∧ Hid (readR S.now f J = (R', JR)) ∧ Hid (rs ++ R' = R) ∧
    o = .slice A rs.length c ∧ Hid (St W0 (Row (.slice A rs.length c) 22 1 rs.length xs :: Vals xs rs :: Disk p S :: Blk j (jourV p J) 114 :: L) X)) (fun o _ _ _ _ => size - lenOf o)
  case atStart => exact ⟨size, ⟨first, size, 0, 0⟩, none, 0, [], R, [], rfl, rfl, Nat.zero_le _, Nat.le_refl _, hid rfl, Nat.le_refl _, HR, hid rfl, rfl, hid (H1.out.vals_nil.nilRow 22 1)⟩
  case round =>
    clear H1 HR
    obtain ⟨f, J, A, c, rs, R', xs, hj1, hj2, hj3, hj4, HJ5, hjf, HRD, HRR, rfl, HS⟩ := hrel
    have HJO := hid (show J.Ok S.now.length from ⟨by omega, by omega, hj4, hbig⟩)
    have HNT := hid (fun (X : World) (L' : List Atm) (hX : St W0 (Disk p S :: Blk j (jourV p J) 114 :: L') X) => next_st hX HOK.out hoff HJO.out)
    cases hnx : nextR S.now J with
    | none =>
      rw [hnx] at HNT
      have HE := hid (show R' = [] ∧ JR = J by
        have := HRD.out
        cases f with
        | zero => exact ⟨(Prod.mk.inj this).1.symm, (Prod.mk.inj this).2.symm⟩
        | succ f => rw [readR, hnx] at this; exact ⟨(Prod.mk.inj this).1.symm, (Prod.mk.inj this).2.symm⟩)
      clear hnx
      go_wp2_with (go_at_call 63; (with_reducible refine (HNT.out _ _ HS.out.rot2).mono ?_); rintro r w2 ⟨rfl, hs2⟩; have H2 := hid hs2.rot2; clear hs2)
      go_ret3
      have hrr := HRR.out
      rw [HE.out.1, List.append_nil] at hrr
      subst hrr
      rw [HE.out.2]
      exact ⟨j, A, c, xs, rfl, H2.out⟩
    | some r =>
      rw [hnx] at HNT
      obtain ⟨hu1, hu2⟩ := nextR_used hnx HOK.out.now
      have hbp := blocksN_pos r.length
      obtain ⟨f', rfl⟩ : ∃ f', f = f' + 1 := ⟨f - 1, by omega⟩
      have HRD := hid (show ∃ R2, R' = r :: R2 ∧ readR S.now f' (J.more r.length) = (R2, JR) by
        have := HRD.out
        rw [readR, hnx] at this
        exact ⟨_, (Prod.mk.inj this).1.symm, by rw [← (Prod.mk.inj this).2]⟩)
      clear hnx
      have HBK := hid (show ∀ X, r.length ≤ 65535 → Calls Try.prog 48 #[.int .i64 r.length] X fun x X' => x = .returned (.int .i64 (blocksN r.length)) ∧ X = X' from fun X hr => (blocks_any (r.length : Int) X).mono (fun x w' hx => ⟨by rw [hx.1, blocksI_nat hr], hx.2⟩))
      have hj6 : rs.length ≤ 8192 := by have := HJ5.out; omega
      go_wp2_with (first | (go_at_call 63; (with_reducible refine (HNT.out _ _ HS.out.rot2).mono ?_); rintro e w2 ⟨B, rfl, hr6, hs2⟩; have H2 := hid hs2.at4; clear hs2) | (refine wpList_buildSlice1 _ rfl (.slice B r.length r.length) (by simp [Act.eval]) rfl Try.underlying81 zero22 size22 (by decide) (by decide) rfl ?_; intro gs X1 hS hgs hges hX1b; have HS2 := hid (H2.out.turn hX1b); have HNW := hid (news_box hS [.slice B r.length r.length] rfl); clear hS hgs hges hX1b) | (refine wpList_append_at _ _ _ rfl (.slice A rs.length c) rfl ⟨gs, 0, none⟩ 1 1 rfl rfl 22 i22 (.slice none 0 0) 1 24 Try.underlying81 HI.out.1 HI.out.2.1 HI.out.2.2.1 HI.out.2.2.2 rfl (by decide) rs.length xs HS2.out.row [.slice B r.length r.length] rfl HNW.out (by simp [Value.oneCell']) (by unfold maxLen; omega) (by omega) ?_; intro v' X2 hO2 hT2 hfr; have HS3 := hid (HS2.out.grow hO2 hT2 hfr); clear hO2 hT2 hfr))
      have HBK := hid (fun X => HBK.out X hr6)
      obtain ⟨nb, hnb⟩ : ∃ nb, nb = blocksN r.length := ⟨_, rfl⟩
      have HNB := hid hnb
      rw [← hnb] at HBK hu2 hbp
      clear hnb H2 HS2 HNW HNT
      refine wp_region_ord [10] [(0, 1), (1, 1), (2, 1), (3, 1), (4, 1), (5, 1), (6, 2), (7, 1), (8, 1), (9, 1), (10, 2)] (fun X => St W0 (Blk j (jourV p J) 114 :: Row v' 22 1 (rs.length + 1) (xs ++ [.slice B r.length r.length]) :: Vals [.slice B r.length r.length] [r] :: Disk p S :: Vals xs rs :: L) X) (by kernel_rfl) (by kernel_rfl) (fun d _ c _ _ h => by cases d <;> exact h) (HS3.out.at4.turn (Below.drew (Below.refl _ _))) (fun X hXe hX => ?_)
      clear hXe HS3
      repeat (apply wpOrd_class; ((· first | (rw [List.getElem?_toArray, List.getElem?_cons_zero]; done) | (simp only [List.getElem?_toArray, List.getElem?_cons_succ, List.getElem?_cons_zero]; exact rfl))); (· exact rfl); intro K hK; apply Exists.intro; refine And.intro (fun X' hX' => ?_) ?_; (· obtain ⟨j0, j1, j2, j3, j4⟩ := jour_cells hX'.blk; clear hX'; go_simp; (try go_bits); first | done | exact rfl | exact ⟨rfl, rfl⟩); go_simp; refine hK _ _ ?_; clear hK K)
      (apply wpOrd_comes; ((· first | (rw [List.getElem?_toArray, List.getElem?_cons_zero]; done) | (simp only [List.getElem?_toArray, List.getElem?_cons_succ, List.getElem?_cons_zero]; exact rfl))); intro N hN)
      go_wp2_with (go_at_call 48; (with_reducible refine (HBK.out _).mono ?_); rintro e X3 ⟨rfl, rfl⟩)
      refine hN _ _ (fun _ => hX) ?_
      clear hN N
      repeat (apply wpOrd_class; ((· first | (rw [List.getElem?_toArray, List.getElem?_cons_zero]; done) | (simp only [List.getElem?_toArray, List.getElem?_cons_succ, List.getElem?_cons_zero]; exact rfl))); (· exact rfl); intro K hK; apply Exists.intro; refine And.intro (fun X' hX' => ?_) ?_; (· obtain ⟨j0, j1, j2, j3, j4⟩ := jour_cells hX'.blk; clear hX'; go_simp; (try go_bits); first | done | exact rfl | exact ⟨rfl, rfl⟩); go_simp; refine hK _ _ ?_; clear hK K)
      obtain ⟨y0, y1, y2, y3, y4⟩ := jour_cells hX.blk
      have f3 := frozen_of_row X j 3 _ _ hX.blk
      (apply wpOrd_comes; ((· first | (rw [List.getElem?_toArray, List.getElem?_cons_zero]; done) | (simp only [List.getElem?_toArray, List.getElem?_cons_succ, List.getElem?_cons_zero]; exact rfl))); intro N hN)
      go_wp2_with fail
      have H5 := hid (hX.setCell 3 (.int .i64 (J.used + nb)))
      clear hX y0 y1 y2 y3 y4 f3
      refine hN _ _ (fun h => by cases h) ?_
      clear hN N
      refine wpOrd_done ?_
      obtain ⟨Y, hY⟩ : ∃ Y, Y = X.setCell ⟨j, 3, none⟩ (.int .i64 (J.used + nb)) := ⟨_, rfl⟩
      rw [← hY] at H5
      have z4 : Y.cell? ⟨j, 4, none⟩ = some (.int .i64 J.n) := (cell_of_row Y j 4 _ _ _ H5.out.blk).trans rfl
      have f4 := frozen_of_row Y j 4 _ _ H5.out.blk
      simp only [← hY]
      clear hY
      go_wp2_with fail
      have H6 := hid (H5.out.setCell 4 (.int .i64 (J.n + 1)))
      rw [show ((jourV p J).setIfInBounds 3 (.int .i64 (J.used + nb))).setIfInBounds 4 (.int .i64 (J.n + 1)) = jourV p (J.more r.length) from by rw [HNB.out]; rfl] at H6
      clear H5 z4 f4
      have H7 := hid H6.out.at3.at5.vals_join.at2.at4.at3.at4
      obtain ⟨R2, hR2, hR3⟩ := HRD.out
      have HR2 := hid hR2
      have HR3 := hid hR3
      have hmu : (J.more r.length).used = J.used + nb := by rw [HNB.out]; rfl
      have hmn : (J.more r.length).n = J.n + 1 := rfl
      clear H6 hR2 hR3 HRD HBK
      obtain ⟨A2, c2, rfl, _⟩ := row_slice H7.out
      go_roundw
      case rel => exact ⟨f', J.more r.length, A2, c2, rs ++ [r], R2, xs ++ [.slice B r.length r.length], hj1, hj2, by omega, by omega, hid (by rw [List.length_append, HJ5.out]; rfl), by omega, HR3, hid (by rw [← HRR.out, HR2.out]; simp), by simp, hid (by rw [List.length_append]; exact H7.out)⟩
      case measure => simp [lenOf]; have := HJ5.out; omega
end
end Go.Proofs.Ythmchbdhikakhaa
/- Texts and records in memory: what a row of slices of bytes holds, what a row of texts holds. -/
namespace Go.Cu
open Go Go.RowKit
def strB (r : List UInt8) : ByteArray := ⟨r.toArray⟩
theorem strB_toList (r : List UInt8) : (strB r).toList = r := by rw [Lib.toList_data]; rfl
theorem strB_size (r : List UInt8) : (strB r).size = r.length := by simp [strB, ByteArray.size]
/-- A text. -/
def sv (r : List UInt8) : Value := .string (strB r)
theorem sv_eq (r : List UInt8) : sv r = .string (strB r) := rfl
/-- Records that can be read behind a slice. -/
def RecsIn (W : World) (A : Option Addr) (rs : List (List UInt8)) : Prop := ∀ i r, rs[i]? = some r → ∃ g o B c, A = some ⟨g, o, none⟩ ∧ W.cell? ⟨g, o + i, none⟩ = some (.slice B r.length c) ∧ r.length ≤ c ∧ c ≤ maxLen ∧ BytesIn W B r
/-- Texts that can be read behind a slice. -/
def TextsIn (W : World) (A : Option Addr) (rs : List (List UInt8)) : Prop := ∀ i r, rs[i]? = some r → ∃ g o, A = some ⟨g, o, none⟩ ∧ W.cell? ⟨g, o + i, none⟩ = some (sv r)
theorem cell_lt {W : World} {g o : Nat} {v : Value} (h : W.cell? ⟨g, o, none⟩ = some v) : g < W.heap.size := World.block_lt_of_cell? W _ h
theorem BytesIn.below {W W' : World} {A : Option Addr} {r : List UInt8} (h : BytesIn W A r) (hb : Below W.heap.size W W') : BytesIn W' A r := fun i b hi => by
  obtain ⟨g, o, e, hg, hc⟩ := h i b hi
  exact ⟨g, o, e, Nat.lt_of_lt_of_le hg hb.size, (hb.cell (p := ⟨g, o + i, none⟩) hg).trans hc⟩
theorem RecsIn.below {W W' : World} {A : Option Addr} {rs : List (List UInt8)} (h : RecsIn W A rs) (hb : Below W.heap.size W W') : RecsIn W' A rs := fun i r hi => by
  obtain ⟨g, o, B, c, e, hc, h1, h2, h3⟩ := h i r hi
  exact ⟨g, o, B, c, e, (hb.cell (p := ⟨g, o + i, none⟩) (cell_lt hc)).trans hc, h1, h2, h3.below hb⟩
theorem TextsIn.below {W W' : World} {A : Option Addr} {rs : List (List UInt8)} (h : TextsIn W A rs) (hb : Below W.heap.size W W') : TextsIn W' A rs := fun i r hi => by
  obtain ⟨g, o, e, hc⟩ := h i r hi
  exact ⟨g, o, e, (hb.cell (p := ⟨g, o + i, none⟩) (cell_lt hc)).trans hc⟩
/-- A row of slices of bytes, with the bytes. -/
def Recs (v : Value) (rs : List (List UInt8)) : Atm :=
  ⟨fun F W => ∃ xs, Star [Row v 22 1 rs.length xs, Vals xs rs] F W, fun {_ _ _} ⟨xs, h⟩ hk => ⟨xs, Star.keep h hk⟩, fun {_ _ _} ⟨xs, h⟩ hm => ⟨xs, Star.mono h hm⟩⟩
/-- A row of texts. -/
abbrev Strs (v : Value) (rs : List (List UInt8)) : Atm := Row v 9 1 rs.length (rs.map sv)
section
variable {W0 W : World} {L : List Atm} {v : Value} {xs : List Value} {rs : List (List UInt8)}
theorem St.recs (h : St W0 (Row v 22 1 rs.length xs :: Vals xs rs :: L) W) : St W0 (Recs v rs :: L) W := by
  obtain ⟨hb, G, ha, H, hb', r⟩ := h
  refine ⟨hb, fun g => G g ∨ H g, ⟨xs, G, (Row v 22 1 rs.length xs).mono ha fun g _ hf => ⟨⟨hf.1, .inl hf.2⟩, hf.2⟩, H, (Vals xs rs).mono hb' fun g _ hf => ⟨⟨⟨hf.1.1, .inr hf.2⟩, hf.1.2⟩, hf.2⟩, trivial⟩, r.mono fun g _ hf => ⟨hf.1.1, fun h => h.elim hf.1.2 hf.2⟩⟩
theorem St.unrecs (h : St W0 (Recs v rs :: L) W) : ∃ xs, St W0 (Row v 22 1 rs.length xs :: Vals xs rs :: L) W := by
  obtain ⟨hb, G, ⟨xs, G1, h1, G2, h2, _⟩, r⟩ := h
  refine ⟨xs, hb, fun g => G g ∧ G1 g, (Row v 22 1 rs.length xs).mono h1 fun g _ hf => ⟨hf.1.1, hf.1.2, hf.2⟩, fun g => G g ∧ G2 g, (Vals xs rs).mono h2 fun g _ hf => ⟨⟨hf.1.1.1, fun h => hf.1.2 h.2⟩, hf.1.1.2, hf.2⟩, r.mono fun g _ hf => ⟨⟨hf.1, fun h => hf.2 h.1⟩, fun h => hf.2 h.1⟩⟩
theorem row_at {e n : Nat} (h : St W0 (Row v e 1 n xs :: L) W) {A : Option Addr} {c : Nat} (hv : v = .slice A n c) {i : Nat} {x : Value} (hx : xs[i]? = some x) : ∃ g, A = some ⟨g, 0, none⟩ ∧ W.cell? ⟨g, i, none⟩ = some x := by
  have hxl := h.row.1
  have hi : i < n := by
    rcases Nat.lt_or_ge i n with h | h
    · exact h
    · rw [List.getElem?_eq_none (by omega)] at hx; cases hx
  rcases h.row.2 with ⟨_, h1⟩ | ⟨g, cap, cur, e1, _, hh, hc, hm, _, hp⟩
  · omega
  · have e2 : A = some ⟨g, 0, none⟩ := by rw [hv] at e1; injection e1
    refine ⟨g, e2, ?_⟩
    rw [cell_of_row W g i _ _ _ hh]
    rw [← hp, List.getElem?_take_of_lt (by omega)] at hx
    simpa using hx
theorem St.recsIn {A : Option Addr} {c : Nat} (h : St W0 (Recs (.slice A rs.length c) rs :: L) W) : RecsIn W A rs := fun i r hi => by
  obtain ⟨xs, hx⟩ := h.unrecs
  obtain ⟨B, cB, e1, h1, h2, h3⟩ := hx.at2.vals.2 i r hi
  obtain ⟨g, e2, hc⟩ := row_at hx rfl e1
  exact ⟨g, 0, B, cB, e2, by rw [Nat.zero_add]; exact hc, h1, h2, h3.bytes⟩
theorem St.textsIn {A : Option Addr} {c : Nat} (h : St W0 (Strs (.slice A rs.length c) rs :: L) W) : TextsIn W A rs := fun i r hi => by
  obtain ⟨g, e2, hc⟩ := row_at h rfl (show (rs.map sv)[i]? = some (sv r) by rw [List.getElem?_map, hi]; rfl)
  exact ⟨g, 0, e2, by rw [Nat.zero_add]; exact hc⟩
end
end Go.Cu
namespace Go.Proofs.Ythmchbdhikakhaa
open Go.RowKit Go.Cu
/-- Bytes as a text. -/
theorem conv_bytes {W : World} {A : Option Addr} {r : List UInt8} (h : BytesIn W A r) (n c : Nat) (hn : n = r.length) : (convert 22 9 (.slice A n c)).run Try.prog W = .ok (sv r) W := by
  subst hn
  match r, h with
  | [], _ =>
    rw [List.length_nil, run_convert_bytes_string (P := Try.prog) W 22 9 5 A 0 c Try.underlying22 Try.underlying5 Try.underlying9]
    cases A with
    | none => simp [Conv.bytesToString]; rfl
    | some a =>
      have hl := run_loadCells_list (P := Try.prog) W a [] (fun j v hj => by cases hj)
      simp [Conv.bytesToString, hl] at hl ⊢
      rfl
  | b :: r, h =>
    obtain ⟨g, o, rfl, _, _⟩ := h 0 b rfl
    have h1 := run_convert_bytes_arg (P := Try.prog) W 22 5 Try.underlying22 Try.underlying5 g o (b :: r).length c (numsB (b :: r)) (by simp [numsB]) (fun i hi => by
      obtain ⟨g', o', e, _, hc⟩ := h i ((b :: r)[i]) (List.getElem?_eq_getElem hi)
      cases e
      rw [hc, numsB_getD hi, List.getD_eq_getElem?_getD, List.getElem?_eq_getElem hi]
      rfl) 9 Try.underlying9
    rw [h1]
    have : strOfNums (numsB (b :: r)) = strB (b :: r) := by
      have e := congrArg List.toArray (numsB_bytes (b :: r))
      unfold strOfNums strB
      congr 1
    rw [this]
    rfl
theorem size9 : (Try.prog.info? 9).map (·.size) = some 1 := by kernel_rfl
theorem zero9 (W : World) : (zeroValue 9).run Try.prog W = .ok (.string ByteArray.empty) W := by kernel_rfl
theorem info9 : (Try.prog.info? 9).map (fun i => (i.zero, i.size, i.bytes)) = some (some (.string ByteArray.empty), 1, 16) := by kernel_rfl
section
variable {W0 W : World} {L : List Atm}
set_option maxRecDepth 20000 in
set_option maxHeartbeats 4000000 in
theorem texts_st {A : Option Addr} {c : Nat} {rs : List (List UInt8)} (h : St W0 L W) (hin : ∀ X, St W0 L X → RecsIn X A rs) (hl : rs.length ≤ 10000) :
    Calls Try.prog 54 #[.slice A rs.length c] W fun r w' => ∃ B d, r = .returned (.slice B rs.length d) ∧ St W0 (Strs (.slice B rs.length d) rs :: L) w' := by
  have HH := hid h
  have HIN := hid hin
  obtain ⟨i9, hi, hiz, his, hib⟩ := info_parts info9
  have HI := hid (And.intro hi (And.intro hiz (And.intro his hib)))
  clear h hin hi hiz his hib
  go_enter Try.func54, Try.ntmps54
  go_wp2_with (refine wpList_buildSlice0 rfl rfl Try.underlying90 size9 ?_; intro gs X1 hS hgs hges hX1; have H1 := hid (HH.out.newRow0 (e := 9) (s := 1) hX1 hges hS); clear hS hgs hges hX1)
  go_loopw [3, 4] (fun o i X => ∃ (k : Nat) (B : Option Addr) (d : Nat), k ≤ rs.length ∧ i = .int .i64 k ∧ o = .slice B k d ∧ Hid (St W0 (Row (.slice B k d) 9 1 k ((rs.take k).map sv) :: L) X)) (fun _ i _ => rs.length - (intOf i).toNat)
  case atStart => exact ⟨0, some ⟨gs, 0, none⟩, 0, Nat.zero_le _, rfl, rfl, H1⟩
  case round =>
    clear H1 HH
    obtain ⟨k, B, d, hk, rfl, rfl, HS⟩ := hrel
    by_cases hlt : k < rs.length
    · have e1 : (k : Int) < (rs.length : Int) := by omega
      obtain ⟨r, hr⟩ : ∃ r, rs[k]? = some r := ⟨_, List.getElem?_eq_getElem hlt⟩
      obtain ⟨g, o, Bk, ck, rfl, hc, h1, h2, h3⟩ := HIN.out wr HS.out.drop k r hr
      have CV := conv_bytes h3 r.length ck rfl
      have HT := hid (show (rs.take (k + 1)).map sv = (rs.take k).map sv ++ [sv r] by rw [List.take_add_one, hr, List.map_append]; rfl)
      clear hr h3
      go_wp2_with (first | (refine wpList_buildSlice1 _ rfl (sv r) (by simp [Act.eval]) rfl Try.underlying90 zero9 size9 (by decide) (by decide) rfl ?_; intro gn X2 hS hgs hges hX1b; have HS2 := hid (HS.out.turn hX1b); have HNW := hid (news_box hS [sv r] rfl); clear hS hgs hges hX1b) | (refine wpList_append_at _ _ _ rfl (.slice B k d) rfl ⟨gn, 0, none⟩ 1 1 rfl rfl 9 i9 (.string ByteArray.empty) 1 16 Try.underlying90 HI.out.1 HI.out.2.1 HI.out.2.2.1 HI.out.2.2.2 rfl (by decide) k ((rs.take k).map sv) HS2.out.row [sv r] rfl HNW.out (by simp [sv, Value.oneCell']) (by unfold maxLen; omega) (by omega) ?_; intro v' X3 hO2 hT2 hfr; have HS3 := hid (HS2.out.grow hO2 hT2 hfr); clear hO2 hT2 hfr))
      rw [← HT.out] at HS3
      obtain ⟨B2, d2, rfl, _⟩ := row_slice HS3.out
      go_roundw
      case rel => exact ⟨k + 1, B2, d2, by omega, by go_num, rfl, HS3⟩
      case measure => simp [intOf]; omega
    · have e1 : ¬ (k : Int) < (rs.length : Int) := by omega
      obtain rfl : k = rs.length := by omega
      go_wp2_with fail
      go_ret
      have := HS.out
      rw [List.take_length] at this
      exact ⟨B, d, rfl, this⟩
end
end Go.Proofs.Ythmchbdhikakhaa
/- Bytes that can be read behind a slice, appended to a row of bytes: of none too. -/
namespace Go.Cu
open Go Go.RowKit
section
variable {P : Program}
theorem run_append_zero {w : World} (base : Nat) (t ty e : TypeId) (i : TypeInfo) (size : Nat) (ht : P.underlying t = some (.slice e)) (hi : P.info? e = some i)
    (v : Value) (n : Nat) (xs : List Value) (hown : w.ownsRow base e size v n xs) (B : Option Addr) (c : Nat) :
    (Builtin.append_ #[t, t] ty #[v, .slice B 0 c]).run P w = .ok v w := by
  have hl : ∀ a : Addr, (loadCells a 0).run P w = .ok #[] w := fun a => run_loadCells_list (P := P) w a [] (fun j v hj => by cases hj)
  rcases hown.2 with ⟨rfl, rfl⟩ | ⟨g, cap, cur, rfl, _, _, hnc, _⟩
  · cases B <;> simp [Builtin.append_, run_underlying ht, sizeOf, typeInfo, hi, Builtin.lenOf, Builtin.firstCells, hl]
  · cases B <;> simp [Builtin.append_, run_underlying ht, sizeOf, typeInfo, hi, Builtin.lenOf, Builtin.firstCells, hnc, storeCells, hl]
theorem wpList_append_bytes {ops : Array Oper} {rest : List Oper} {o : Oper} {a : Act} {w : World} {Q : Exit → Act → World → Prop} (s x : Operand) (t : TypeId)
    (ho : o.op = .call { callee := .builtin .append, args := #[s, x], argTypes := #[t, t] }) (v : Value) (hs : a.eval s = v) (B : Option Addr) (c : Nat) (r : List UInt8) (hx : a.eval x = .slice B r.length c) (hw : Region.wanted o (yielded ops a.tmps) = true)
    (e : TypeId) (i : TypeInfo) (ht : P.underlying t = some (.slice e)) (hi : P.info? e = some i) (hz : i.zero = some (.int .u8 0))
    (hsize : i.size = 1) (hby : i.bytes = 1)
    (n : Nat) (xs : List Value) (hown : w.ownsRow 0 e 1 v n xs) (hb : BytesIn w B r)
    (h63 : n + r.length ≤ 140737488355328)
    (h : ∀ v' w', w'.ownsRow 0 e 1 v' (n + r.length) (xs ++ bvL r) → Tch (fun g => v.ownBlock = some g) w w' → (v'.ownBlock = v.ownBlock ∨ v'.ownBlock = some w.heap.size) → wpList P ops Q rest (a.put o.dst v') w') : wpList P ops Q (o :: rest) a w := by
  match r, hb, h63, h, hx with
  | [], hb, h63, h, hx =>
    refine wpList_wanted hw fun K hK => ?_
    have hrun := run_append_zero 0 t o.type e i 1 ht hi v n xs hown B c
    unfold Oper.wp execOp
    simp only [ho, resolve, invoke, builtin, Sem.run_bind, Sem.run_pure, Result.andThen_ok, List.map_toArray, List.map_cons, List.map_nil, hs, hx, List.length_nil, hrun]
    exact hK _ _ (h v w (by simpa [bvL] using hown) (Tch.refl _ _) (.inl rfl))
  | b :: r, hb, h63, h, hx =>
    obtain ⟨g, o', rfl, _, _⟩ := hb 0 b rfl
    refine wpList_append_at s x t ho v hs ⟨g, o', none⟩ (b :: r).length c hx hw e i (.int .u8 0) 1 1 ht hi hz hsize hby rfl (by decide) n xs hown (bvL (b :: r)) (by simp [bvL]) (fun j u hj => ?_) (bvL_one _) (by unfold maxLen; omega) (by omega) h
    unfold bvL at hj
    rw [List.getElem?_map] at hj
    cases hq : (b :: r)[j]? with
    | none => rw [hq] at hj; cases hj
    | some q =>
      rw [hq] at hj
      obtain rfl : Value.int .u8 q.toNat = u := by simpa using hj
      obtain ⟨g', o2, e', _, hc⟩ := hb j q hq
      cases e'
      have e3 : (⟨g, o', none⟩ : Addr).add j = ⟨g, o' + j, none⟩ := by unfold Addr.add; split <;> simp_all
      rw [e3]
      exact hc
end
end Go.Cu
namespace Go.Proofs.Ythmchbdhikakhaa
open Go.RowKit Go.Cu
section
variable {W0 W : World} {L : List Atm}
set_option maxRecDepth 20000 in
set_option maxHeartbeats 4000000 in
theorem all_st {A : Option Addr} {c : Nat} {rs : List (List UInt8)} (h : St W0 L W) (hin : ∀ X, St W0 L X → RecsIn X A rs) (hl : rs.length ≤ 10000) (hf : ∀ k, (rs.take k).flatten.length ≤ 1000000) :
    Calls Try.prog 56 #[.slice A rs.length c] W fun r w' => r = .returned (sv rs.flatten) ∧ St W0 L w' := by
  have HH := hid h
  have HIN := hid hin
  have HF := hid hf
  obtain ⟨i5, hi, hiz, his, hib⟩ := info_parts info5
  have HI := hid (And.intro hi (And.intro hiz (And.intro his hib)))
  clear h hin hi hiz his hib hf
  go_enter Try.func56, Try.ntmps56
  go_wp2_with fail
  go_loopw [3, 4] (fun o i X => ∃ (k : Nat) (B : Option Addr) (d : Nat) (f : List UInt8), k ≤ rs.length ∧ i = .int .i64 k ∧ Hid (f = (rs.take k).flatten) ∧ o = .slice B f.length d ∧ Hid (St W0 (Row (.slice B f.length d) 5 1 f.length (bvL f) :: L) X)) (fun _ i _ => rs.length - (intOf i).toNat)
  case atStart => exact ⟨0, none, 0, [], Nat.zero_le _, rfl, hid rfl, rfl, hid (HH.out.nilRow 5 1)⟩
  case round =>
    clear HH
    obtain ⟨k, B, d, f, hk, rfl, HE, rfl, HS⟩ := hrel
    by_cases hlt : k < rs.length
    · have e1 : (k : Int) < (rs.length : Int) := by omega
      obtain ⟨r, hr⟩ : ∃ r, rs[k]? = some r := ⟨_, List.getElem?_eq_getElem hlt⟩
      obtain ⟨g, o, Bk, ck, rfl, hc, h1, h2, h3⟩ := HIN.out wr HS.out.drop k r hr
      have HE := hid (show f ++ r = (rs.take (k + 1)).flatten by rw [List.take_add_one, hr, HE.out]; simp)
      have hfl : f.length + r.length ≤ 140737488355328 := by
        have := HF.out (k + 1)
        rw [← HE.out, List.length_append] at this
        omega
      have H3 := hid h3
      clear hr h3
      go_wp2_with (refine wpList_append_bytes _ _ 22 rfl (.slice B f.length d) rfl Bk ck r rfl rfl 5 i5 Try.underlying22 HI.out.1 HI.out.2.1 HI.out.2.2.1 HI.out.2.2.2 f.length (bvL f) HS.out.row H3.out hfl ?_; intro v' X3 hO2 hT2 hfr; have HS3 := hid (HS.out.grow hO2 hT2 hfr); clear hO2 hT2 hfr)
      rw [show bvL f ++ bvL r = bvL (f ++ r) from by unfold bvL; rw [List.map_append], ← List.length_append] at HS3
      obtain ⟨B2, d2, rfl, _⟩ := row_slice HS3.out
      go_roundw
      case rel => exact ⟨k + 1, B2, d2, f ++ r, by omega, by go_num, HE, rfl, HS3⟩
      case measure => simp [intOf]; omega
    · have e1 : ¬ (k : Int) < (rs.length : Int) := by omega
      have HE := hid (show f = rs.flatten by rw [HE.out, List.take_of_length_le (by omega)])
      have CV := conv_bytes (W := wr) (A := B) (r := f) (fun i b hb => by
        obtain ⟨g, e, hc⟩ := row_at HS.out rfl (show (bvL f)[i]? = some (.int .u8 b.toNat) by unfold bvL; rw [List.getElem?_map, hb]; rfl)
        exact ⟨g, 0, e, cell_lt hc, by rw [Nat.zero_add]; exact hc⟩) f.length d rfl
      go_wp2_with fail
      go_ret
      rw [← HE.out]
      exact ⟨rfl, HS.out.drop⟩
end
end Go.Proofs.Ythmchbdhikakhaa
/- Records one behind the other, till one is not answered: plainly. No program. -/
namespace Go.Cu
/-- What a row of appends answers: the records that were answered, the disk, the journal. -/
def DS.fill : List (List UInt8) → DS → Jn → List (List UInt8) × DS × Jn
  | [], S, J => ([], S, J)
  | r :: rs, S, J => if (S.append J r).2 ≠ 0 then ([], (S.append J r).1, J) else let x := DS.fill rs (S.append J r).1 (J.more r.length); (r :: x.1, x.2)
theorem fill_stop {S : DS} {J : Jn} {r : List UInt8} {rs : List (List UInt8)} (h : (S.append J r).2 ≠ 0) : DS.fill (r :: rs) S J = ([], (S.append J r).1, J) := by rw [DS.fill, if_pos h]
theorem fill_go {S : DS} {J : Jn} {r : List UInt8} {rs : List (List UInt8)} (h : (S.append J r).2 = 0) : DS.fill (r :: rs) S J = (r :: (DS.fill rs (S.append J r).1 (J.more r.length)).1, (DS.fill rs (S.append J r).1 (J.more r.length)).2) := by rw [DS.fill, if_neg (by rw [h]; decide)]
theorem Quiet.fill {J0 : Jn} : ∀ (rs : List (List UInt8)) {S : DS} {pre : List (List UInt8)} {J : Jn}, Quiet S J0 pre J → (∀ r ∈ rs, r.length ≤ 65535) →
    ∃ o T K, DS.fill rs S J = (o, T, K) ∧ T.now.length = S.now.length ∧ o = rs.take o.length ∧ o.length ≤ rs.length ∧ (S.armed = 0 → T.armed = 0 ∧ T.off = false) ∧
      (T.off = false ∧ Quiet T J0 (pre ++ o) K ∨ T.off = true ∧ ∃ r, rs[o.length]? = some r ∧ Fallen T J0 (pre ++ o) r)
  | [], S, pre, J, h, _ => ⟨[], S, J, rfl, rfl, rfl, Nat.le_refl _, fun ha => ⟨ha, h.on⟩, .inl ⟨h.on, by rw [List.append_nil]; exact h⟩⟩
  | r :: rs, S, pre, J, h, hl => by
    obtain ⟨T, e, he, hlen, harm, hres⟩ := h.append (hl r (by simp))
    rcases hres with ⟨_, rfl, rfl⟩ | ⟨_, ⟨rfl, hq⟩ | ⟨rfl, hf⟩⟩
    · rw [fill_stop (by rw [he]; simp), he]
      exact ⟨[], T, J, rfl, rfl, rfl, Nat.zero_le _, fun ha => ⟨ha, h.on⟩, .inl ⟨h.on, by rw [List.append_nil]; exact h⟩⟩
    · rw [fill_go (by rw [he]), he]
      obtain ⟨o, U, K, h1, h2, h3, h4, h5, h6⟩ := Quiet.fill rs hq (fun q hq => hl q (by simp [hq]))
      rw [h1]
      refine ⟨r :: o, U, K, rfl, h2.trans hlen, ?_, by simpa using h4, fun ha => h5 (harm ha).1, ?_⟩
      · rw [List.length_cons, List.take_succ_cons, ← h3]
      · rw [List.length_cons, List.getElem?_cons_succ, show pre ++ r :: o = pre ++ [r] ++ o by simp]
        exact h6
    · rw [fill_stop (by rw [he]; simp), he]
      exact ⟨[], T, J, rfl, hlen, rfl, Nat.zero_le _, fun ha => absurd rfl (harm ha).2, .inr ⟨hf.off, r, rfl, by rw [List.append_nil]; exact hf⟩⟩
/-- Behind a fall of the power, or none, and a crash. -/
theorem Quiet.fall {J0 : Jn} {rs : List (List UInt8)} {S : DS} {pre : List (List UInt8)} {J : Jn} (h : Quiet S J0 pre J) (hl : ∀ r ∈ rs, r.length ≤ 65535) (keep : List Bool) :
    ∃ got K, readR ((DS.fill rs S J).2.1.crash keep).now J0.size J0 = (got, K) ∧ Quiet ((DS.fill rs S J).2.1.crash keep) J0 got K ∧
      ((DS.fill rs S J).2.1.off = false ∧ got = pre ++ (DS.fill rs S J).1 ∨ (DS.fill rs S J).2.1.off = true ∧ ∃ r, rs[(DS.fill rs S J).1.length]? = some r ∧ (got = pre ++ (DS.fill rs S J).1 ∨ got = pre ++ (DS.fill rs S J).1 ++ [r])) := by
  obtain ⟨o, T, K, h1, _, _, _, _, h6⟩ := h.fill rs hl
  rw [h1]
  rcases h6 with ⟨ho, hq⟩ | ⟨ho, r, hr, hf⟩
  · exact ⟨_, _, (hq.crash keep).read (Nat.le_refl _), hq.crash keep, .inl ⟨ho, rfl⟩⟩
  · obtain ⟨rs', K', hor, hq⟩ := hf.then_ keep
    exact ⟨rs', K', hq.read (Nat.le_refl _), hq, .inr ⟨ho, r, hr, hor⟩⟩

/-! A disk of noughts. -/
structure Zeros (N : Nat) (S : DS) : Prop where
  now : S.now = List.replicate N zeroB
  last : S.last = List.replicate N zeroB
  wait : ∀ p ∈ S.wait, p.2 = zeroB
  off : S.off = false
  armed : S.armed = 0
theorem set_zero (N i : Nat) : (List.replicate N zeroB).set i zeroB = List.replicate N zeroB := by
  refine List.ext_getElem? fun j => ?_
  by_cases e : i = j
  · subst e
    by_cases hi : i < N
    · rw [List.getElem?_set_self (by simpa using hi)]; simp [hi]
    · rw [List.set_eq_of_length_le (by simp; omega)]
  · rw [List.getElem?_set_ne e]
theorem lastOf_zero (kept : Nat → Bool) (N : Nat) : ∀ (l : List (Nat × Blk8)) (k : Nat), (∀ p ∈ l, p.2 = zeroB) → lastOf kept k l (List.replicate N zeroB) = List.replicate N zeroB
  | [], _, _ => rfl
  | p :: l, k, h => by
    rw [lastOf, h p (by simp), set_zero, ite_self]
    exact lastOf_zero kept N l (k + 1) fun q hq => h q (by simp [hq])
theorem nowOf_zero (N : Nat) : ∀ (l : List (Nat × Blk8)), nowOf (List.replicate N zeroB) l (List.replicate N zeroB) = List.replicate N zeroB
  | [] => rfl
  | p :: l => by
    have e : (List.replicate N zeroB).getD p.1 zeroB = zeroB := by
      rw [List.getD_eq_getElem?_getD, List.getElem?_replicate]; split <;> rfl
    rw [nowOf, e, set_zero]
    exact nowOf_zero N l
theorem Zeros.new (N : Nat) : Zeros N (DS.new N) := ⟨rfl, rfl, (by intro p hp; cases hp), rfl, rfl⟩
theorem Zeros.wipe {N : Nat} : ∀ (m p : Nat) {S : DS}, Zeros N S → p + m ≤ N → (S.wipe m p).2 = 0 ∧ (S.wipe m p).1.wait = [] ∧ Zeros N (S.wipe m p).1
  | 0, p, S, h, _ => by
    have e : S.wipe 0 p = (S.settle (fun _ => true), 0) := by
      rw [DS.wipe]; unfold DS.sync; rw [if_neg (by rw [h.off]; decide)]
    rw [e]
    have hl : (S.settle fun _ => true).last = List.replicate N zeroB := by
      show lastOf _ 0 S.wait S.last = _
      rw [h.last]; exact lastOf_zero _ _ _ _ h.wait
    refine ⟨rfl, rfl, ?_, hl, fun p hp => (by cases hp), h.off, h.armed⟩
    show nowOf (lastOf _ 0 S.wait S.last) S.wait S.now = _
    rw [h.last, lastOf_zero _ _ _ _ h.wait, h.now]
    exact nowOf_zero _ _
  | m + 1, p, S, h, hp => by
    obtain ⟨a, o, e, hw, heo, hz⟩ := write_on (S := S) (i := p) (b := zeroB) h.off (by rw [h.now, List.length_replicate]; omega)
    obtain ⟨rfl, rfl⟩ := hz h.armed
    rcases heo with ⟨rfl, _⟩ | ⟨_, h0⟩
    · rw [wipe_go (by rw [hw]), hw]
      refine Zeros.wipe m (p + 1) ⟨?_, h.last, ?_, rfl, rfl⟩ (by omega)
      · show S.now.set p zeroB = _
        rw [h.now, set_zero]
      · intro q hq
        rcases List.mem_append.1 hq with hq | hq
        · exact h.wait q hq
        · obtain rfl := List.mem_singleton.1 hq
          rfl
    · cases h0
/-- A journal of no records. -/
theorem Zeros.quiet {N : Nat} {S : DS} (h : Zeros N S) (hw : S.wait = []) (J : Jn) (hu : J.used ≤ J.size) (hf : J.first + J.size ≤ N) : Quiet S J [] J := by
  refine ⟨hw, by rw [h.now, h.last], h.off, by rw [h.now, List.length_replicate]; exact hf, hu, rfl, fun i _ _ => ?_⟩
  rw [h.last, List.getD_eq_getElem?_getD, List.getElem?_replicate]
  split
  · simp [zeroB]
  · simp [zeroB]
theorem Zeros.fresh {N m p : Nat} (hp : p + m ≤ N) : ((DS.new N).wipe m p).2 = 0 ∧ ((DS.new N).wipe m p).1.armed = 0 ∧ ((DS.new N).wipe m p).1.now.length = N ∧ Quiet ((DS.new N).wipe m p).1 ⟨p, m, 0, 0⟩ [] ⟨p, m, 0, 0⟩ := by
  obtain ⟨h1, h2, h3⟩ := (Zeros.new N).wipe m p hp
  exact ⟨h1, h3.armed, by rw [h3.now, List.length_replicate], h3.quiet h2 _ (Nat.zero_le _) hp⟩
/-- Where the power goes off within the blocks behind the head. -/
theorem tailS_falls {J : Jn} {rec : List UInt8} : ∀ (m k : Nat) {S : DS}, S.off = false → 0 < S.armed → S.armed ≤ m → J.first + J.used + k + m ≤ S.now.length → (S.tailS J rec m k).2 = 13
  | 0, _, _, _, h1, h2, _ => by omega
  | m + 1, k, S, h0, h1, h2, h3 => by
    have h4 : S.at_ ((J.first + J.used + k : Nat) : Int) = 0 := by
      unfold DS.at_
      rw [h0]
      simp only [Bool.false_eq_true, if_false]
      rw [if_neg (by omega)]
    have hw : S.write ((J.first + J.used + k : Nat) : Int) (blockB J.n k rec) = (S.put (J.first + J.used + k) (blockB J.n k rec)).tick := by
      unfold DS.write
      rw [h4, if_neg (by decide), Int.toNat_natCast]
    by_cases ha : 0 < S.armed - 1
    · rw [DS.put_tick1 (by omega) ha] at hw
      rw [tailS_go (by rw [hw]), hw]
      refine tailS_falls m (k + 1) h0 ha (by show S.armed - 1 ≤ _; omega) ?_
      show _ ≤ (S.now.set _ _).length
      rw [List.length_set]; omega
    · rw [DS.put_tick2 (by omega) ha] at hw
      rw [tailS_stop (by rw [hw]; simp), hw]
end Go.Cu
/- Len, Room; a fresh journal. -/
namespace Go.Proofs.Ythmchbdhikakhaa
open Go.RowKit Go.Cu
theorem len_nil (w : World) : Calls Try.prog 46 #[.pointer none] w fun r w' => r = .returned (.int .i64 0) ∧ w = w' := by
  go_enter Try.func46, Try.ntmps46
  go_wp2
  go_ret
  exact ⟨rfl, rfl⟩
theorem room_nil (w : World) : Calls Try.prog 47 #[.pointer none] w fun r w' => r = .returned (.int .i64 0) ∧ w = w' := by
  go_enter Try.func47, Try.ntmps47
  go_wp2
  go_ret
  exact ⟨rfl, rfl⟩
theorem jnone_ok (w : World) : Calls Try.prog 44 #[] w fun r w' => r = .returned (.pointer none) ∧ w = w' := by
  go_enter Try.func44, Try.ntmps44
  go_wp2
  go_ret
  exact ⟨rfl, rfl⟩
section
variable {W0 W : World} {L : List Atm} {p j : Nat} {S : DS} {N : Nat} {J : Jn}
theorem len_st (h : St W0 (Blk j (jourV p J) 114 :: L) W) : Calls Try.prog 46 #[.pointer (some ⟨j, 0, none⟩)] W fun r w' => r = .returned (.int .i64 J.n) ∧ W = w' := by
  obtain ⟨y0, y1, y2, y3, y4⟩ := jour_cells h.blk
  clear h
  go_enter Try.func46, Try.ntmps46
  go_wp2
  go_ret
  exact ⟨rfl, rfl⟩
theorem room_st (h : St W0 (Blk j (jourV p J) 114 :: L) W) (hu : J.used ≤ J.size) (hs : J.size ≤ 8192) {m : Nat} (hm : m = J.size - J.used) : Calls Try.prog 47 #[.pointer (some ⟨j, 0, none⟩)] W fun r w' => r = .returned (.int .i64 m) ∧ St W0 (Blk j (jourV p J) 114 :: L) w' := by
  have HH := hid h
  have em : (J.size : Int) - (J.used : Int) = (m : Int) := by omega
  clear h hm
  go_enter Try.func47, Try.ntmps47
  go_wp2_with fail
  refine wp_region_ord [] [(0, 1), (1, 1), (2, 1), (3, 1), (4, 1), (5, 1), (6, 1), (7, 1), (8, 1), (9, 1)] (fun X => St W0 (Blk j (jourV p J) 114 :: L) X) (by kernel_rfl) (by kernel_rfl) (fun d _ c _ _ h => by cases d <;> exact h) (HH.out.turn (Below.drew (Below.refl _ _))) (fun X hXe hX => ?_)
  clear hXe
  repeat (apply wpOrd_class; ((· first | (rw [List.getElem?_toArray, List.getElem?_cons_zero]; done) | (simp only [List.getElem?_toArray, List.getElem?_cons_succ, List.getElem?_cons_zero]; exact rfl))); (· exact rfl); intro K hK; apply Exists.intro; refine And.intro (fun X' hX' => ?_) ?_; (· obtain ⟨j0, j1, j2, j3, j4⟩ := jour_cells hX'.blk; clear hX'; go_simp; (try go_bits); first | done | exact rfl | exact ⟨rfl, rfl⟩); go_simp; refine hK _ _ ?_; clear hK K)
  refine wpOrd_done ?_
  have HX := hid hX
  clear hX
  go_wp2_with fail
  go_ret
  exact ⟨rfl, HX.out⟩
/-- A journal of so many blocks on a new disk. -/
def freshD (s : Nat) : DS := ((DS.new (s + 4)).wipe s 3).1
theorem fresh_quiet (s : Nat) : ((DS.new (s + 4)).wipe s 3).2 = 0 ∧ (freshD s).armed = 0 ∧ (freshD s).now.length = s + 4 ∧ Quiet (freshD s) ⟨3, s, 0, 0⟩ [] ⟨3, s, 0, 0⟩ := Zeros.fresh (by omega)
theorem wipe_ok' : ∀ (m q : Nat) {S : DS} {N : Nat}, S.Ok N → (S.wipe m q).1.Ok (N + m)
  | 0, _, _, _, h => h.sync
  | m + 1, q, S, N, h => by
    have hw := h.write (q : Int) zeroB_len
    rw [DS.wipe]
    split
    · exact hw.mono (by omega)
    · exact (wipe_ok' m (q + 1) hw).mono (by omega)
theorem freshD_ok {s : Nat} (hs : s ≤ 1000) : (freshD s).Ok 1000 := (wipe_ok' s 3 (DS.Ok.new (n := s + 4) (by omega))).mono (by omega)
set_option maxRecDepth 20000 in
set_option maxHeartbeats 2000000 in
theorem fresh_st (h : St W0 L W) {s : Nat} (h1 : 1 ≤ s) (h2 : s ≤ 1000) {m : Int} (hm : m = s) : Calls Try.prog 50 #[.int .i64 m] W fun r w' => ∃ p j, r = .returned (.tuple #[.pointer (some ⟨j, 0, none⟩), .pointer (some ⟨p, 0, none⟩), .bool true]) ∧
    St W0 (Disk p (freshD s) :: Blk j (jourV p ⟨3, s, 0, 0⟩) 114 :: L) w' := by
  subst hm
  obtain ⟨q1, q2, q3, q4⟩ := fresh_quiet s
  have HN := hid (new_sti (m := (s : Int) + 4) (n := s + 4) h (by omega) (by omega) (by omega))
  have HFM := hid (show ∀ (p : Nat) (X : World), St W0 (Disk p (DS.new (s + 4)) :: L) X → Calls Try.prog 41 #[.pointer (some ⟨p, 0, none⟩), .int .i64 3, .int .i64 s] X fun r w' => r = .returned (.int .i64 0) ∧ St W0 (Disk p (freshD s) :: L) w' from fun p X hX => by
    have := format_ok (N := 0) (first := 3) (size := s) hX (DS.Ok.new (n := s + 4) (by omega)) h1 (by simp [DS.new]; omega) (by omega)
    rw [q1] at this
    exact this)
  have HOP := hid (show ∀ (p : Nat) (X : World), St W0 (Disk p (freshD s) :: L) X → Calls Try.prog 42 #[.pointer (some ⟨p, 0, none⟩), .int .i64 3, .int .i64 s] X fun r w' => ∃ (j : Nat) (A : Option Addr) (c : Nat), r = .returned (.tuple #[.pointer (some ⟨j, 0, none⟩), .slice A 0 c, .int .i64 0]) ∧
      St W0 (Disk p (freshD s) :: Blk j (jourV p ⟨3, s, 0, 0⟩) 114 :: L) w' from fun p X hX => by
    refine (open_st (first := 3) (size := s) hX (freshD_ok h2) q4.on h1 (by rw [q3]; omega) (q4.read (Nat.le_refl _))).mono ?_
    rintro r w' ⟨j, A, c, xs, hr, hs⟩
    exact ⟨j, A, c, hr, hs.drop.drop⟩)
  clear h q1 q2 q3 q4
  go_enter Try.func50, Try.ntmps50
  go_wp2_with (first | (go_at_call 13; (with_reducible refine HN.out.mono ?_); rintro r w1 ⟨p, rfl, hs1⟩; have H1 := hid hs1; clear hs1) | (go_at_call 41; (with_reducible refine (HFM.out _ _ H1.out).mono ?_); rintro r w2 ⟨rfl, hs2⟩; have H2 := hid hs2; clear hs2) | (go_at_call 42; (with_reducible refine (HOP.out _ _ H2.out).mono ?_); rintro r w3 ⟨j, A, c, rfl, hs3⟩; have H3 := hid hs3; clear hs3))
  go_ret3
  exact ⟨p, j, rfl, H3.out⟩
end
end Go.Proofs.Ythmchbdhikakhaa
/- fill: records, till the power goes off, or one has no room. -/
namespace Go.Cu
open Go Go.RowKit
theorem tailS_len {J : Jn} {rec : List UInt8} : ∀ (m k : Nat) (S : DS), (S.tailS J rec m k).1.now.length = S.now.length
  | 0, _, _ => rfl
  | m + 1, k, S => by
    rw [DS.tailS]
    split
    · exact write_len' _ _ _
    · rw [tailS_len m (k + 1)]; exact write_len' _ _ _
theorem append_len' (S : DS) (J : Jn) (rec : List UInt8) : (S.append J rec).1.now.length = S.now.length := by
  have h1 : (S.tailA J rec).1.now.length = S.now.length := by
    unfold DS.tailA
    split
    · exact tailS_len _ _ _
    · split
      · exact tailS_len _ _ _
      · rw [sync_len']; exact tailS_len _ _ _
  unfold DS.append
  split
  · rfl
  · split
    · rfl
    · split
      · exact h1
      · unfold DS.headA
        split
        · rw [write_len']; exact h1
        · rw [sync_len', write_len']; exact h1
theorem append_room {S : DS} {J : Jn} {rec : List UInt8} : (S.append J rec).2 = 0 → blocksN rec.length ≤ J.size - J.used := by
  unfold DS.append
  split
  · intro h; cases h
  · split
    · intro h; cases h
    · intro _; omega
/-- Records behind a slice, the same in all worlds of a kind. -/
def RecsAll (P : World → Prop) (A : Option Addr) (rs : List (List UInt8)) : Prop := ∀ i r, rs[i]? = some r → ∃ g o B c, A = some ⟨g, o, none⟩ ∧ r.length ≤ c ∧ c ≤ maxLen ∧ ∀ X, P X → X.cell? ⟨g, o + i, none⟩ = some (.slice B r.length c) ∧ BytesIn X B r
theorem RecsAll.imp {P Q : World → Prop} {A : Option Addr} {rs : List (List UInt8)} (h : RecsAll P A rs) (hq : ∀ X, Q X → P X) : RecsAll Q A rs := fun i r hi => by
  obtain ⟨g, o, B, c, e, h1, h2, h3⟩ := h i r hi
  exact ⟨g, o, B, c, e, h1, h2, fun X hX => h3 X (hq X hX)⟩
theorem RecsAll.recsIn {P : World → Prop} {A : Option Addr} {rs : List (List UInt8)} (h : RecsAll P A rs) {X : World} (hX : P X) : RecsIn X A rs := fun i r hi => by
  obtain ⟨g, o, B, c, e, h1, h2, h3⟩ := h i r hi
  exact ⟨g, o, B, c, e, (h3 X hX).1, h1, h2, (h3 X hX).2⟩
theorem recsAll_row {W0 W : World} {L : List Atm} {A : Option Addr} {c : Nat} {xs : List Value} {rs : List (List UInt8)} (h : St W0 (Row (.slice A rs.length c) 22 1 rs.length xs :: Vals xs rs :: L) W) :
    RecsAll (fun X => ∃ M, St W0 (Row (.slice A rs.length c) 22 1 rs.length xs :: Vals xs rs :: M) X) A rs := fun i r hi => by
  obtain ⟨B, cB, e1, h1, h2, h3⟩ := h.at2.vals.2 i r hi
  obtain ⟨g, e2, hc⟩ := row_at h rfl e1
  refine ⟨g, 0, B, cB, e2, h1, h2, fun X ⟨M, hX⟩ => ?_⟩
  obtain ⟨B', cB', e1', h1', h2', h3'⟩ := hX.at2.vals.2 i r hi
  rw [e1] at e1'
  obtain ⟨rfl, rfl⟩ : B = B' ∧ cB = cB' := by
    have := Option.some.inj e1'
    injection this with p1 p2 p3
    exact ⟨p1, p3⟩
  obtain ⟨g', e2', hc'⟩ := row_at hX rfl e1
  rw [e2] at e2'
  cases e2'
  exact ⟨by rw [Nat.zero_add]; exact hc', h3'.bytes⟩
/-- Records of the caller. -/
theorem recsAll_caller {W0 : World} {A : Option Addr} {rs : List (List UInt8)} (h : RecsIn W0 A rs) : RecsAll (fun X => Below W0.heap.size W0 X) A rs := fun i r hi => by
  obtain ⟨g, o, B, c, e, hc, h1, h2, h3⟩ := h i r hi
  exact ⟨g, o, B, c, e, h1, h2, fun X hX => ⟨(hX.cell (p := ⟨g, o + i, none⟩) (cell_lt hc)).trans hc, h3.below hX⟩⟩
end Go.Cu
namespace Go.Proofs.Ythmchbdhikakhaa
open Go.RowKit Go.Cu
theorem append_ok {S : DS} {N : Nat} (h : S.Ok N) (J : Jn) {rec : List UInt8} (hl : rec.length ≤ 65535) : (S.append J rec).1.Ok (N + 700) := by
  unfold DS.append
  rw [if_neg (by omega)]
  split
  · exact h.mono (by omega)
  · have h1 := tailA_ok h J rec rfl (blocksN_le hl)
    split
    · exact h1.mono (by omega)
    · have hw := h1.write ((J.first + J.used : Nat) : Int) (blockB_len J.n 0 rec)
      unfold DS.headA
      split
      · exact hw.mono (by omega)
      · exact hw.sync.mono (by omega)
theorem jn_more {J : Jn} {n : Nat} (h : J.Ok n) {l : Nat} (hl : blocksN l ≤ J.size - J.used) : (J.more l).Ok n := by
  have := blocksN_pos l
  have h1 := h.fits
  have h2 := h.used
  have h3 := h.few
  exact ⟨h1, by show J.used + blocksN l ≤ J.size; omega, by show J.n + 1 ≤ J.used + blocksN l; omega, h.big⟩
section
variable {W0 W : World} {L : List Atm} {p j : Nat} {S : DS} {M0 : Nat} {J : Jn}
set_option maxRecDepth 20000 in
set_option maxHeartbeats 4000000 in
theorem fill_st {A : Option Addr} {c : Nat} {rs : List (List UInt8)} (h : St W0 (Disk p S :: Blk j (jourV p J) 114 :: L) W) (hok : S.Ok M0) (hJ : J.Ok S.now.length) (hM : M0 + 700 * rs.length ≤ 999000)
    (hin : RecsAll (fun X => St W0 L X) A rs) (hlr : ∀ r ∈ rs, r.length ≤ 65535)
    {O : List (List UInt8)} {T : DS} {K : Jn} (hF : DS.fill rs S J = (O, T, K)) :
    Calls Try.prog 55 #[.pointer (some ⟨j, 0, none⟩), .slice A rs.length c] W fun r w' => ∃ B d, r = .returned (.slice B O.length d) ∧ St W0 (Strs (.slice B O.length d) O :: Disk p T :: Blk j (jourV p K) 114 :: L) w' := by
  have HH := hid h
  have HIN := hid hin
  have HLR := hid hlr
  have HF := hid hF
  have HOK := hid hok
  have HJ := hid hJ
  obtain ⟨i9, hi, hiz, his, hib⟩ := info_parts info9
  have HI := hid (And.intro hi (And.intro hiz (And.intro his hib)))
  obtain ⟨N0, hN0⟩ : ∃ N0, N0 = S.now.length := ⟨_, rfl⟩
  rw [← hN0] at HJ
  have HN0 := hid hN0.symm
  clear h hin hi hiz his hib hlr hF hok hJ hN0
  go_enter Try.func55, Try.ntmps55
  go_wp2_with fail
  go_loopw [5, 6] (fun o i X => ∃ (k : Nat) (B : Option Addr) (d : Nat) (S : DS) (J : Jn) (O' : List (List UInt8)), k ≤ rs.length ∧ i = .int .i64 k ∧ o = .slice B k d ∧ Hid (S.now.length = N0) ∧ Hid (J.Ok N0) ∧ Hid (S.Ok (M0 + 700 * k)) ∧ Hid (DS.fill (rs.drop k) S J = (O', T, K)) ∧ Hid (rs.take k ++ O' = O) ∧
    Hid (St W0 (Row (.slice B k d) 9 1 k ((rs.take k).map sv) :: Disk p S :: Blk j (jourV p J) 114 :: L) X)) (fun _ i _ => rs.length - (intOf i).toNat)
  case atStart => exact ⟨0, none, 0, S, J, O, Nat.zero_le _, rfl, rfl, HN0, HJ, HOK, HF, hid rfl, hid (HH.out.nilRow 9 1)⟩
  case round =>
    clear HH HF HOK HJ HN0
    obtain ⟨k, B, d, S, J, O', hk, rfl, rfl, HN0, HJ, HOK, HF, HO, HS⟩ := hrel
    by_cases hlt : k < rs.length
    · have e1 : (k : Int) < (rs.length : Int) := by omega
      obtain ⟨r, hr⟩ : ∃ r, rs[k]? = some r := ⟨_, List.getElem?_eq_getElem hlt⟩
      obtain ⟨g, o, Bk, ck, rfl, h1, h2, h3⟩ := HIN.out k r hr
      obtain ⟨hc, hb⟩ := h3 wr HS.out.drop.drop.drop
      have H3 := hid h3
      have HD := hid (show rs.drop k = r :: rs.drop (k + 1) by
        rw [List.drop_eq_getElem_cons hlt]
        have := List.getElem?_eq_getElem hlt
        rw [hr] at this
        rw [← Option.some.inj this])
      rw [HD.out] at HF
      have hr6 := HLR.out r (List.mem_of_getElem? hr)
      obtain ⟨S2, e, hA⟩ : ∃ S2 e, S.append J r = (S2, e) := ⟨_, _, rfl⟩
      have HA := hid hA
      have HAP := hid (show Calls Try.prog 45 #[.pointer (some ⟨j, 0, none⟩), .slice Bk r.length ck] wr fun x w' => x = .returned (.int .i64 e) ∧ St W0 (Disk p S2 :: Blk j (jourV p (J.after e r.length)) 114 :: Row (.slice B k d) 9 1 k ((rs.take k).map sv) :: L) w' from by
        have := append_st (HS.out.at2.at3.at2) HOK.out (by rw [HN0.out]; exact HJ.out) (by omega) (rec := r) (A := Bk) (c := ck) (fun X hX => (H3.out X hX.drop).2) hr6 h1 h2
        rw [hA] at this
        exact this)
      have HN2 := hid (show S2.now.length = N0 by have := append_len' S J r; rw [hA] at this; rw [this]; exact HN0.out)
      have HO2 := hid (show S2.Ok (M0 + 700 * k + 700) by have := append_ok HOK.out J hr6; rw [hA] at this; exact this)
      clear hA
      by_cases he : e = 0
      · subst he
        have HF2 := hid (show ∃ O2, O' = r :: O2 ∧ DS.fill (rs.drop (k + 1)) S2 (J.more r.length) = (O2, T, K) by
          have := HF.out
          rw [fill_go (by rw [HA.out]), HA.out] at this
          exact ⟨_, (Prod.mk.inj this).1.symm, by rw [← (Prod.mk.inj this).2]⟩)
        have HAP := hid (show Calls Try.prog 45 #[.pointer (some ⟨j, 0, none⟩), .slice Bk r.length ck] wr fun x w' => x = .returned (.int .i64 0) ∧ St W0 (Row (.slice B k d) 9 1 k ((rs.take k).map sv) :: Disk p S2 :: Blk j (jourV p (J.more r.length)) 114 :: L) w' from HAP.out.mono fun x w' hx => ⟨hx.1, hx.2.at3⟩)
        have HJ2 := hid (jn_more HJ.out (append_room (S := S) (J := J) (rec := r) (by rw [HA.out])))
        have HT := hid (show (rs.take (k + 1)).map sv = (rs.take k).map sv ++ [sv r] by rw [List.take_add_one, hr, List.map_append]; rfl)
        have HT2 := hid (show rs.take (k + 1) = rs.take k ++ [r] by rw [List.take_add_one, hr]; rfl)
        have HCV := hid (fun X hX => conv_bytes (H3.out X hX).2 r.length ck rfl)
        clear h3 hr hb
        go_wp2_with (first | (go_at_call 45; (with_reducible refine HAP.out.mono ?_); rintro x w2 ⟨rfl, hs2⟩; have H2 := hid hs2; clear hs2; have CV := HCV.out w2 H2.out.drop.drop.drop; have hc2 := (H3.out w2 H2.out.drop.drop.drop).1) | (refine wpList_buildSlice1 _ rfl (sv r) (by simp [Act.eval]) rfl Try.underlying90 zero9 size9 (by decide) (by decide) rfl ?_; intro gn X2 hS hgs hges hX1b; have HS2 := hid (H2.out.turn hX1b); have HNW := hid (news_box hS [sv r] rfl); clear hS hgs hges hX1b) | (refine wpList_append_at _ _ _ rfl (.slice B k d) rfl ⟨gn, 0, none⟩ 1 1 rfl rfl 9 i9 (.string ByteArray.empty) 1 16 Try.underlying90 HI.out.1 HI.out.2.1 HI.out.2.2.1 HI.out.2.2.2 rfl (by decide) k ((rs.take k).map sv) HS2.out.row [sv r] rfl HNW.out (by simp [sv, Value.oneCell']) (by unfold maxLen; omega) (by omega) ?_; intro v' X3 hO2 hT2 hfr; have HS3 := hid (HS2.out.grow hO2 hT2 hfr); clear hO2 hT2 hfr))
        rw [← HT.out] at HS3
        obtain ⟨B2, d2, rfl, _⟩ := row_slice HS3.out
        obtain ⟨O2, hO2, hO3⟩ := HF2.out
        have HO2b := hid hO2
        have HO3 := hid hO3
        clear hO2 hO3
        go_roundw
        case rel => exact ⟨k + 1, B2, d2, S2, J.more r.length, O2, by omega, by go_num, rfl, HN2, HJ2, hid (HO2.out.mono (by omega)), HO3, hid (by rw [HT2.out, List.append_assoc, ← HO.out, HO2b.out]; rfl), HS3⟩
        case measure => simp [intOf]; omega
      · have HF2 := hid (show O' = [] ∧ T = S2 ∧ K = J by
          have := HF.out
          rw [fill_stop (by rw [HA.out]; exact he), HA.out] at this
          obtain ⟨a1, a2⟩ := Prod.mk.inj this
          obtain ⟨a3, a4⟩ := Prod.mk.inj a2
          exact ⟨a1.symm, a3.symm, a4.symm⟩)
        have HAP := hid (show Calls Try.prog 45 #[.pointer (some ⟨j, 0, none⟩), .slice Bk r.length ck] wr fun x w' => x = .returned (.int .i64 e) ∧ St W0 (Row (.slice B k d) 9 1 k ((rs.take k).map sv) :: Disk p T :: Blk j (jourV p K) 114 :: L) w' from HAP.out.mono fun x w' hx => ⟨hx.1, by
          have := hx.2.at3
          unfold Jn.after at this
          rw [if_neg he, ← HF2.out.2.1, ← HF2.out.2.2] at this
          exact this⟩)
        have hne : (e != 0) = true := by simpa using he
        have HL := hid (show O = rs.take k by rw [← HO.out, HF2.out.1, List.append_nil])
        have HL2 := hid (show k = O.length by rw [HL.out, List.length_take]; omega)
        clear h3 hr hb he
        go_wp2_with (go_at_call 45; (with_reducible refine HAP.out.mono ?_); rintro x w2 ⟨rfl, hs2⟩; have H2 := hid hs2; clear hs2)
        go_ret
        have := H2.out
        rw [← HL.out] at this
        refine ⟨B, d, by rw [← HL2.out]; rfl, ?_⟩
        show St W0 (Row (.slice B O.length d) 9 1 O.length (O.map sv) :: Disk p T :: Blk j (jourV p K) 114 :: L) _
        rw [← HL2.out]
        exact this
    · have e1 : ¬ (k : Int) < (rs.length : Int) := by omega
      have HF2 := hid (show O' = [] ∧ T = S ∧ K = J by
        have := HF.out
        rw [List.drop_eq_nil_of_le (by omega)] at this
        obtain ⟨a1, a2⟩ := Prod.mk.inj this
        obtain ⟨a3, a4⟩ := Prod.mk.inj a2
        exact ⟨a1.symm, a3.symm, a4.symm⟩)
      have HL := hid (show O = rs.take k by rw [← HO.out, HF2.out.1, List.append_nil])
      have HL2 := hid (show k = O.length by rw [HL.out, List.length_take]; omega)
      go_wp2_with fail
      go_ret
      have := HS.out
      rw [← HL.out, ← HF2.out.2.1, ← HF2.out.2.2] at this
      refine ⟨B, d, by rw [← HL2.out]; rfl, ?_⟩
      show St W0 (Row (.slice B O.length d) 9 1 O.length (O.map sv) :: Disk p T :: Blk j (jourV p K) 114 :: L) _
      rw [← HL2.out]
      exact this
end
end Go.Proofs.Ythmchbdhikakhaa
/- Same, All, Few: of texts and records. -/
namespace Go.Proofs.Ythmchbdhikakhaa
open Go.RowKit Go.Cu
theorem same_long {A B : Option Addr} {c d : Nat} {rs ss : List (List UInt8)} (hl : rs.length ≠ ss.length) (w : World) :
    Calls Try.prog 53 #[.slice A rs.length c, .slice B ss.length d] w fun r w' => r = .returned (.bool false) ∧ w = w' := by
  have e1 : ((rs.length : Int) == (ss.length : Int)) = false := by rw [beq_eq_false_iff_ne]; omega
  go_enter Try.func53, Try.ntmps53
  go_wp2
  go_ret
  exact ⟨rfl, rfl⟩
theorem same_ne {rs ss : List (List UInt8)} {k : Nat} {r s : List UInt8} (hr : rs[k]? = some r) (hs : ss[k]? = some s) (h : r ≠ s) : (rs == ss) = false := by
  rw [beq_eq_false_iff_ne]
  rintro rfl
  rw [hr] at hs
  exact h (Option.some.inj hs)
set_option maxRecDepth 20000 in
set_option maxHeartbeats 4000000 in
theorem same_ok {A B : Option Addr} {c d : Nat} {rs ss : List (List UInt8)} (w : World) (h1 : TextsIn w A rs) (h2 : TextsIn w B ss) (hm : rs.length ≤ 10000) :
    Calls Try.prog 53 #[.slice A rs.length c, .slice B ss.length d] w fun r w' => r = .returned (.bool (rs == ss)) ∧ Below w.heap.size w w' := by
  by_cases hl : rs.length = ss.length
  rotate_left
  · refine (same_long hl w).mono ?_
    rintro r w' ⟨rfl, rfl⟩
    refine ⟨?_, Below.refl _ _⟩
    rw [show (rs == ss) = false from by rw [beq_eq_false_iff_ne]; rintro rfl; exact hl rfl]
  have H1 := hid h1
  have H2 := hid h2
  rw [← hl]
  have HL := hid hl
  clear h1 h2 hl
  go_enter Try.func53, Try.ntmps53
  go_wp2_with fail
  go_loopw [5] (fun i X => ∃ k : Nat, k ≤ rs.length ∧ i = .int .i64 k ∧ Hid (rs.take k = ss.take k) ∧ Hid (Below w.heap.size w X)) (fun i _ => rs.length - (intOf i).toNat)
  case atStart => exact ⟨0, Nat.zero_le _, rfl, hid rfl, hid (Below.refl _ _)⟩
  case round =>
    obtain ⟨k, hk, rfl, HT, HB⟩ := hrel
    by_cases hlt : k < rs.length
    · have e2 : (k : Int) < (rs.length : Int) := by omega
      have e0 : (0 : Int) ≤ (k : Int) := by omega
      obtain ⟨r, hr⟩ : ∃ r, rs[k]? = some r := ⟨_, List.getElem?_eq_getElem hlt⟩
      obtain ⟨s, hs⟩ : ∃ s, ss[k]? = some s := ⟨_, List.getElem?_eq_getElem (by rw [← HL.out]; exact hlt)⟩
      obtain ⟨g, o, rfl, hc⟩ := (H1.out.below HB.out) k r hr
      obtain ⟨g', o', rfl, hc'⟩ := (H2.out.below HB.out) k s hs
      have HR := hid hr
      have HS := hid hs
      clear hr hs
      rw [sv_eq] at hc hc'
      go_wp2_with fail
      by_cases hrs : r = s
      · have hb : ((strB r).toList == (strB s).toList) = true := by rw [hrs]; simp
        have HT := hid (show rs.take (k + 1) = ss.take (k + 1) by rw [List.take_add_one, List.take_add_one, HR.out, HS.out, HT.out, hrs])
        clear hrs
        refine wp_region_ord [] [(0, 1), (1, 1), (2, 1), (3, 1), (4, 1), (5, 1), (6, 1), (7, 1), (8, 1)] (fun X => X = World.drew wr) (by kernel_rfl) (by kernel_rfl) (fun d _ c _ _ h => by cases d <;> exact h) rfl (fun X hXe _ => ?_)
        subst hXe
        repeat (apply wpOrd_class; ((· first | (rw [List.getElem?_toArray, List.getElem?_cons_zero]; done) | (simp only [List.getElem?_toArray, List.getElem?_cons_succ, List.getElem?_cons_zero]; exact rfl))); (· exact rfl); intro K hK; apply Exists.intro; refine And.intro (fun X' hX' => ?_) ?_; (· go_simp; (try go_bits); first | done | exact rfl | exact ⟨rfl, rfl⟩); go_simp; refine hK _ _ ?_; clear hK K)
        refine wpOrd_done ?_
        go_wp2_with fail
        go_roundw
        case rel => exact ⟨k + 1, by omega, by go_num, HT, hid HB.out.drew⟩
        case measure => simp [intOf]; omega
      · have hb : ((strB r).toList == (strB s).toList) = false := by rw [strB_toList, strB_toList]; simpa using hrs
        have HF := hid (same_ne HR.out HS.out hrs)
        clear hrs
        refine wp_region_ord [] [(0, 1), (1, 1), (2, 1), (3, 1), (4, 1), (5, 1), (6, 1), (7, 1), (8, 1)] (fun X => X = World.drew wr) (by kernel_rfl) (by kernel_rfl) (fun d _ c _ _ h => by cases d <;> exact h) rfl (fun X hXe _ => ?_)
        subst hXe
        repeat (apply wpOrd_class; ((· first | (rw [List.getElem?_toArray, List.getElem?_cons_zero]; done) | (simp only [List.getElem?_toArray, List.getElem?_cons_succ, List.getElem?_cons_zero]; exact rfl))); (· exact rfl); intro K hK; apply Exists.intro; refine And.intro (fun X' hX' => ?_) ?_; (· go_simp; (try go_bits); first | done | exact rfl | exact ⟨rfl, rfl⟩); go_simp; refine hK _ _ ?_; clear hK K)
        refine wpOrd_done ?_
        go_wp2_with fail
        go_ret
        rw [HF.out]
        exact ⟨rfl, HB.out.drew⟩
    · have e2 : ¬ (k : Int) < (rs.length : Int) := by omega
      have HE := hid (show (rs == ss) = true by
        have hh := HT.out
        rw [List.take_of_length_le (by omega), List.take_of_length_le (by rw [← HL.out]; omega)] at hh
        simp [hh])
      go_wp2_with fail
      go_ret
      rw [HE.out]
      exact ⟨rfl, HB.out⟩
end Go.Proofs.Ythmchbdhikakhaa
/- journals: are records there again? -/
namespace Go.Cu
open Go Go.RowKit
theorem Quiet.append0 {S : DS} {J0 J : Jn} {rs : List (List UInt8)} {rec : List UInt8} (h : Quiet S J0 rs J) (ha : S.armed = 0) (hl : rec.length ≤ 65535) (hr : blocksN rec.length ≤ J.size - J.used) :
    ∃ T, S.append J rec = (T, 0) ∧ T.armed = 0 ∧ T.now.length = S.now.length ∧ Quiet T J0 (rs ++ [rec]) (J.more rec.length) := by
  obtain ⟨T, e, h1, h2, h3, h4⟩ := h.append hl
  obtain ⟨h5, h6⟩ := h3 ha
  rcases h4 with ⟨h7, _⟩ | ⟨_, ⟨rfl, h7⟩ | ⟨h7, _⟩⟩
  · omega
  · exact ⟨T, h1, h5, h2, h7⟩
  · exact absurd h7 h6
section
variable {W0 W : World} {L : List Atm} {P : Program}
theorem blk_bytes {g : Nat} {r : List UInt8} {t : TypeId} (h : St W0 (Blk g (bv r) t :: L) W) : BytesIn W (some ⟨g, 0, none⟩) r := fun i b hi => by
  refine ⟨g, 0, rfl, heap_lt h.blk, ?_⟩
  rw [Nat.zero_add, cell_of_row W g i _ _ _ h.blk, bv_eq, List.getElem?_toArray]
  unfold bvL
  rw [List.getElem?_map, hi]
  rfl
/-- A constant's bytes: the new row bears a mark behind its last cell. -/
theorem St.marked (h : St W0 L W) (r : List UInt8) (e : TypeId) (n m : Nat) (hr : r.length ≤ maxLen) : St W0 (Vals [.slice (some ⟨W.heap.size, 0, none⟩) r.length r.length] [r] :: L) (W.alloc (.cells (bv r) e (n, m))) := by
  have hat : (W.alloc (.cells (bv r) e (n, m))).heap[W.heap.size]? = some (.cells (bv r) e (n, m)) := heap_alloc_at _ _ rfl
  refine h.push ((Below.refl _ _).alloc (Nat.le_refl _) _) ⟨rfl, fun i q hi => ?_⟩
  match i with
  | i + 1 => cases hi
  | 0 =>
    obtain rfl : r = q := by simpa using hi
    refine ⟨_, _, rfl, Nat.le_refl _, hr, fun k b hb => ⟨W.heap.size, 0, rfl, Nat.le_refl _, heap_lt hat, ?_⟩⟩
    rw [Nat.zero_add, cell_of_row _ W.heap.size k _ _ _ hat, bv_eq, List.getElem?_toArray]
    unfold bvL
    rw [List.getElem?_map, hb]
    rfl
theorem vals_bytes {A : Option Addr} {c : Nat} {r : List UInt8} {X : World} (h : St W0 (Vals [.slice A r.length c] [r] :: L) X) : BytesIn X A r := by
  obtain ⟨A', c', e1, _, _, hb⟩ := h.vals.2 0 r rfl
  have e2 : Value.slice A r.length c = .slice A' r.length c' := Option.some.inj e1
  injection e2 with e3 _ _
  subst e3
  exact hb.bytes
theorem wpList_mk {t e : TypeId} {ops : Array Oper} {rest : List Oper} {o : Oper} {a : Act} {w : World} {Q : Exit → Act → World → Prop} (x y : Operand) (ho : o.op = .makeSlice t x y) (u v : Value) (hx : a.eval x = u) (hy : a.eval y = v)
    (hw : Region.wanted o (yielded ops a.tmps) = true) (n : Nat) (cs : Array Value) (hrun : ∀ w : World, (Instr.makeSlice t u v).run P w = .ok (.slice (some ⟨w.heap.size, 0, none⟩) n n) (w.alloc (.cells cs e)))
    (h : ∀ (g : Nat) (W : World), W.heap[g]? = some (.cells cs e (0, 0)) → g < W.heap.size → w.heap.size ≤ g → Below w.heap.size w W → wpList P ops Q rest (a.put o.dst (.slice (some ⟨g, 0, none⟩) n n)) W) : wpList P ops Q (o :: rest) a w := by
  refine wpList_wanted hw fun K hK => ?_
  have hr : (execOp a.eval o).run P w = .ok (.value (.slice (some ⟨w.heap.size, 0, none⟩) n n)) (w.alloc (.cells cs e)) := by
    unfold execOp
    simp only [ho, hx, hy, Sem.run_bind, hrun w, Result.andThen_ok, Sem.run_pure]
  unfold Oper.wp
  rw [hr]
  exact hK _ _ (h w.heap.size _ (heap_alloc_at _ _ rfl) (by simp) (Nat.le_refl _) ((Below.refl _ _).alloc (Nat.le_refl _) _))
end
end Go.Cu
namespace Go.Proofs.Ythmchbdhikakhaa
open Go.RowKit Go.Cu
theorem make22 (n : Nat) (hn : n ≤ 100000) (W : World) : (Instr.makeSlice 22 (.int .i64 n) (.int .i64 n)).run Try.prog W = .ok (.slice (some ⟨W.heap.size, 0, none⟩) n n) (W.alloc (.cells (bv (List.replicate n 0)) 5)) := by
  obtain ⟨i0, hi, hiz, his, hib⟩ := info_parts info5
  have h := run_make (P := Try.prog) W 22 5 i0 _ Try.underlying22 hi hiz .i64 .i64 n n (by omega) (Int.le_refl _) (by rw [hib]; omega) (by omega)
  rw [his] at h
  simp only [Int.toNat_natCast] at h
  rw [show madeCells (Value.int .u8 0).cells (n * 1) = bv (List.replicate n 0) from by
    apply Array.ext
    · rw [size_madeCells, bv_size, List.length_replicate, Nat.mul_one]
    · intro j h1 h2
      simp [madeCells, bv, Value.cells, Nat.mod_one]] at h
  exact h
section
variable {W0 W : World} {L : List Atm}
set_option maxRecDepth 20000 in
set_option maxHeartbeats 8000000 in
theorem journals_st (h : St W0 L W) : Calls Try.prog 43 #[] W fun x w' => x = .returned (.bool true) ∧ St W0 L w' := by
  obtain ⟨q1, q2, q3, q4⟩ := fresh_quiet 5
  have hok := freshD_ok (s := 5) (by decide)
  obtain ⟨S0, hS0⟩ : ∃ S0, S0 = freshD 5 := ⟨_, rfl⟩
  have HFR := hid (fresh_st (s := 5) (m := 5) h (by decide) (by decide) rfl)
  rw [← hS0] at q2 q3 q4 hok HFR
  obtain ⟨S1, a1, a2, a3, a4⟩ := q4.append0 (rec := [97, 98]) q2 (by decide) (by decide)
  obtain ⟨S2, b1, b2, b3, b4⟩ := a4.append0 (rec := List.replicate 118 0) a2 (by decide) (by rw [List.length_replicate]; decide)
  have hJ1 : (⟨3, 5, 0, 0⟩ : Jn).more ([97, 98] : List UInt8).length = ⟨3, 5, 1, 1⟩ := rfl
  rw [hJ1] at a4 b1 b4
  have hJ2 : (⟨3, 5, 1, 1⟩ : Jn).more (List.replicate 118 (0 : UInt8)).length = ⟨3, 5, 3, 2⟩ := by rw [List.length_replicate]; rfl
  rw [hJ2] at b4
  have hok1 : S1.Ok 2000 := by have := append_ok hok ⟨3, 5, 0, 0⟩ (rec := [97, 98]) (by decide); rw [a1] at this; exact this.mono (by decide)
  have hok2 : S2.Ok 3000 := by have := append_ok hok1 ⟨3, 5, 1, 1⟩ (rec := List.replicate 118 0) (by rw [List.length_replicate]; decide); rw [b1] at this; exact this.mono (by decide)
  have HA1 := hid (fun (p j g : Nat) (X : World) (hX : St W0 (Vals [.slice (some ⟨g, 0, none⟩) 2 2] [[97, 98]] :: Disk p S0 :: Blk j (jourV p ⟨3, 5, 0, 0⟩) 114 :: L) X) => show Calls Try.prog 45 #[.pointer (some ⟨j, 0, none⟩), .slice (some ⟨g, 0, none⟩) 2 2] X fun x w' => x = .returned (.int .i64 0) ∧ St W0 (Disk p S1 :: Blk j (jourV p ⟨3, 5, 1, 1⟩) 114 :: L) w' from by
    have := append_st (rec := [97, 98]) (A := some ⟨g, 0, none⟩) (c := 2) hX.at3.at3 hok ⟨by rw [q3]; decide, by decide, by decide, by rw [q3]; decide⟩ (by decide) (fun Y hY => vals_bytes (c := 2) (r := [97, 98]) hY) (by decide) (by decide) (by decide)
    rw [a1] at this
    exact this.mono fun x w' hx => ⟨hx.1, hx.2.drop3⟩)
  have HA2 := hid (fun (p j g : Nat) (X : World) (hX : St W0 (Blk g (bv (List.replicate 118 0)) 5 :: Disk p S1 :: Blk j (jourV p ⟨3, 5, 1, 1⟩) 114 :: L) X) => show Calls Try.prog 45 #[.pointer (some ⟨j, 0, none⟩), .slice (some ⟨g, 0, none⟩) 118 118] X fun x w' => x = .returned (.int .i64 0) ∧ St W0 (Disk p S2 :: Blk j (jourV p ⟨3, 5, 3, 2⟩) 114 :: L) w' from by
    have := append_st (rec := List.replicate 118 0) (A := some ⟨g, 0, none⟩) (c := 118) hX.at3.at3 hok1 ⟨by rw [a3, q3]; decide, by decide, by decide, by rw [a3, q3]; decide⟩ (by decide) (fun Y hY => blk_bytes hY) (by rw [List.length_replicate]; decide) (by rw [List.length_replicate]; decide) (by decide)
    rw [b1, List.length_replicate] at this
    exact this.mono fun x w' hx => ⟨hx.1, hx.2.drop3⟩)
  have HLN := hid (fun (p j : Nat) (X : World) (hX : St W0 (Disk p S2 :: Blk j (jourV p ⟨3, 5, 3, 2⟩) 114 :: L) X) => show Calls Try.prog 46 #[.pointer (some ⟨j, 0, none⟩)] X fun r w' => r = .returned (.int .i64 2) ∧ X = w' from len_st hX.at2)
  have HRM := hid (fun (p j : Nat) (X : World) (hX : St W0 (Disk p S2 :: Blk j (jourV p ⟨3, 5, 3, 2⟩) 114 :: L) X) => show Calls Try.prog 47 #[.pointer (some ⟨j, 0, none⟩)] X fun r w' => r = .returned (.int .i64 2) ∧ St W0 (Disk p S2 :: Blk j (jourV p ⟨3, 5, 3, 2⟩) 114 :: L) w' from (room_st (m := 2) hX.at2 (by decide) (by decide) rfl).mono fun r w' hx => ⟨hx.1, hx.2.at2⟩)
  have HOP := hid (fun (p : Nat) (M : List Atm) (X : World) (hX : St W0 (Disk p S2 :: M) X) => show Calls Try.prog 42 #[.pointer (some ⟨p, 0, none⟩), .int .i64 3, .int .i64 5] X fun r w' => ∃ (j g : Nat) (c : Nat) (B0 B1 : Option Addr) (c0 c1 : Nat), r = .returned (.tuple #[.pointer (some ⟨j, 0, none⟩), .slice (some ⟨g, 0, none⟩) 2 c, .int .i64 0]) ∧
      w'.cell? ⟨g, 0, none⟩ = some (.slice B0 2 c0) ∧ w'.cell? ⟨g, 1, none⟩ = some (.slice B1 118 c1) ∧ BytesIn w' B0 [97, 98] ∧ St W0 M w' from by
    refine (open_st (first := 3) (size := 5) hX hok2 b4.on (by decide) (by rw [b3, a3, q3]; decide) (b4.read (Nat.le_refl _))).mono ?_
    rintro r w' ⟨j, A, c, xs, hr, hs⟩
    obtain ⟨B0, c0, e0, _, _, hb0⟩ := hs.at2.vals.2 0 [97, 98] rfl
    obtain ⟨B1, c1, e1, _, _, hb1⟩ := hs.at2.vals.2 1 (List.replicate 118 0) rfl
    obtain ⟨g, rfl, hc0⟩ := row_at hs rfl e0
    obtain ⟨g', eg, hc1⟩ := row_at hs rfl e1
    cases eg
    rw [List.length_replicate] at hc1
    exact ⟨j, g, c, B0, B1, c0, c1, hr, hc0, hc1, hb0.bytes, hs.drop.drop.drop.drop⟩)
  have HH := hid h
  have kc := fun (w : World) (C : Array Value) (n c : Nat) => Lib.run_convert_bytes_const (P := Try.prog) w 22 5 C n c Try.underlying22 Try.underlying5
  clear h q1 q2 q3 q4 hok hS0 a1 a2 a3 a4 b1 b2 b3 b4 hok1 hok2 hJ1 hJ2
  go_enter Try.func43, Try.ntmps43
  go_wp2_with (first | (go_at_call 50; (with_reducible refine HFR.out.mono ?_); rintro r w1 ⟨p, j, rfl, hs1⟩; have H1 := hid hs1; clear hs1) | (go_at_call 45; first | ((with_reducible refine (HA1.out _ _ _ _ (H1.out.marked [97, 98] 5 2 3 (by decide))).mono ?_); rintro r w2 ⟨rfl, hs2⟩; have H3 := hid hs2; clear hs2) | ((with_reducible refine (HA2.out _ _ _ _ H4.out).mono ?_); rintro r w3 ⟨rfl, hs3⟩; have H5 := hid hs3; clear hs3)) | (refine wpList_mk _ _ rfl _ _ rfl rfl rfl 118 _ (make22 118 (by decide)) ?_; intro g2 X2 hg hgl hgg hX; have H4 := hid (H3.out.newBlk hX hgg hg); clear hg hgl hgg hX) | (go_at_call 46; (with_reducible refine (HLN.out _ _ _ H5.out).mono ?_); rintro r w4 ⟨rfl, rfl⟩) | (go_at_call 47; (with_reducible refine (HRM.out _ _ _ H5.out).mono ?_); rintro r w5 ⟨rfl, hs5⟩; have H6 := hid hs5; clear hs5) | (go_at_call 42; (with_reducible refine (HOP.out _ _ _ H6.out).mono ?_); rintro r w6 ⟨j2, g, c, B0, B1, c0, c1, rfl, hc0, hc1, hb0, hs6⟩; have H7 := hid hs6; have CV : (convert 22 9 (.slice B0 2 c0)).run Try.prog w6 = .ok (.string ⟨#[97, 98]⟩) w6 := conv_bytes hb0 2 c0 rfl; clear hs6 hb0))
  go_ret
  exact ⟨rfl, H7.out.drop⟩
end
end Go.Proofs.Ythmchbdhikakhaa
/- Few: no more than some records, of no more than some bytes. -/
namespace Go.Cu
open Go Go.RowKit
section
variable {W0 W : World} {L : List Atm}
/-- A row of bytes is a value. -/
theorem St.row_val {A : Option Addr} {c e n : Nat} {bs : List UInt8} (h : St W0 (Row (.slice A n c) e 1 n (bvL bs) :: L) W) (hn : n = bs.length) : St W0 (Vals [.slice A n c] [bs] :: L) W := by
  obtain ⟨F, ha, hF, hr⟩ := h.first
  refine hr _ _ ⟨rfl, fun i r hi => ?_⟩ (Tch.refl _ _)
  match i with
  | i + 1 => cases hi
  | 0 =>
    obtain rfl : bs = r := by simpa using hi
    rcases ha.2.2 with ⟨h1, h0⟩ | ⟨g, cap, cur, e1, _, hh, hc, hm, _, hp⟩
    · have : bs = [] := List.eq_nil_of_length_eq_zero (by omega)
      subst this
      have e2 : A = none ∧ c = 0 := by injection h1 with p1 p2 p3; exact ⟨p1, p3⟩
      exact ⟨A, c, by rw [hn]; rfl, by simp, by rw [e2.2]; exact Nat.zero_le _, fun k b hb => by cases hb⟩
    · have e2 : A = some ⟨g, 0, none⟩ ∧ c = cap := by injection e1 with p1 p2 p3; exact ⟨p1, p3⟩
      refine ⟨A, c, by rw [hn]; rfl, by omega, by omega, fun k b hb => ?_⟩
      have hk : k < n := by
        rw [hn]
        rcases Nat.lt_or_ge k bs.length with h | h
        · exact h
        · rw [List.getElem?_eq_none h] at hb; cases hb
      refine ⟨g, 0, e2.1, .inl (ha.1 g (by rw [e2.1]; rfl)), heap_lt hh, ?_⟩
      rw [cell_of_row W g (0 + k) _ _ _ hh, Nat.zero_add]
      have h3 : (cur.toList.take (n * 1))[k]? = some (Value.int .u8 b.toNat) := by rw [hp]; unfold bvL; rw [List.getElem?_map, hb]; rfl
      rw [Nat.mul_one, List.getElem?_take_of_lt (by omega)] at h3
      simpa using h3
end
theorem BytesIn.take {W : World} {A : Option Addr} {r : List UInt8} (h : BytesIn W A r) (m : Nat) : BytesIn W A (r.take m) := fun i b hi => by
  have hi' : i < m := by
    rcases Nat.lt_or_ge i m with h1 | h1
    · exact h1
    · rw [List.getElem?_eq_none (by rw [List.length_take]; omega)] at hi; cases hi
  rw [List.getElem?_take_of_lt hi'] at hi
  exact h i b hi
/-- What Few answers. -/
def fewL (rs : List (List UInt8)) (most size : Nat) : List (List UInt8) := (rs.take most).map fun r => r.take size
end Go.Cu
namespace Go.Proofs.Ythmchbdhikakhaa
open Go.RowKit Go.Cu
section
variable {W0 W : World} {L : List Atm}
set_option maxRecDepth 20000 in
set_option maxHeartbeats 4000000 in
theorem few_st {A : Option Addr} {c : Nat} {rs : List (List UInt8)} {most size : Nat} (h : St W0 L W) (hin : RecsIn W0 A rs) (hm : most ≤ 10000) (hs : size ≤ 100000) :
    Calls Try.prog 51 #[.slice A rs.length c, .int .i64 most, .int .i64 size] W fun r w' => ∃ B d, r = .returned (.slice B (fewL rs most size).length d) ∧ St W0 (Recs (.slice B (fewL rs most size).length d) (fewL rs most size) :: L) w' := by
  have HH := hid h
  have HIN := hid hin
  obtain ⟨i5, hi, hiz, his, hib⟩ := info_parts info5
  have HI := hid (And.intro hi (And.intro hiz (And.intro his hib)))
  clear hi hiz his hib
  obtain ⟨i22, hi, hiz, his, hib⟩ := info_parts info22
  have HJ := hid (And.intro hi (And.intro hiz (And.intro his hib)))
  clear h hin hi hiz his hib
  go_enter Try.func51, Try.ntmps51
  go_wp2_with fail
  go_loopw [7, 8] (fun o i X => ∃ (k : Nat) (B : Option Addr) (d : Nat) (xs : List Value), k ≤ rs.length ∧ k ≤ most ∧ i = .int .i64 k ∧ o = .slice B k d ∧ Hid (St W0 (Row (.slice B k d) 22 1 k xs :: Vals xs ((rs.take k).map fun r => r.take size) :: L) X)) (fun _ i _ => rs.length - (intOf i).toNat)
  case atStart => exact ⟨0, none, 0, [], Nat.zero_le _, Nat.zero_le _, rfl, rfl, hid (HH.out.vals_nil.nilRow 22 1)⟩
  case round =>
    clear HH
    obtain ⟨k, B, d, xs, hk, hkm, rfl, rfl, HS⟩ := hrel
    by_cases hlt : k < rs.length
    · have e1 : (k : Int) < (rs.length : Int) := by omega
      by_cases hlm2 : k < most
      · have e2 : (k : Int) < (most : Int) := by omega
        have e0 : (0 : Int) ≤ (k : Int) := by omega
        obtain ⟨r, hr⟩ : ∃ r, rs[k]? = some r := ⟨_, List.getElem?_eq_getElem hlt⟩
        obtain ⟨g, o, Bk, ck, rfl, hc, h1, h2, h3⟩ := HIN.out k r hr
        have HC := hid (show ∀ X, St W0 L X → X.cell? ⟨g, o + k, none⟩ = some (.slice Bk r.length ck) from fun X hX => (hX.below.cell (p := ⟨g, o + k, none⟩) (cell_lt hc)).trans hc)
        obtain ⟨rt, hrt⟩ : ∃ rt, rt = r.take size := ⟨_, rfl⟩
        have HBT := hid (show ∀ X, St W0 L X → BytesIn X Bk rt from fun X hX => by rw [hrt]; exact (h3.below hX.below).take size)
        have hrl : rt.length = min r.length size := by rw [hrt, List.length_take, Nat.min_comm]
        have EM : (if size < r.length then (size : Int) else (r.length : Int)) = (rt.length : Int) := by split <;> omega
        have hrs : rt.length ≤ 100000 := by omega
        have hrc : (rt.length : Int) ≤ (ck : Int) := by omega
        have hrc2 : rt.length ≤ ck := by omega
        have HT := hid (show ((rs.take (k + 1)).map fun r => r.take size) = ((rs.take k).map fun r => r.take size) ++ [rt] by rw [List.take_add_one, hr, List.map_append, hrt]; rfl)
        clear hr h3 hc hrl hrt
        go_wp2_with fail
        refine wp_region_ord [] [(0, 1), (2, 1), (3, 1), (4, 1), (5, 1), (6, 1), (7, 1), (8, 1), (9, 1), (10, 1), (11, 1), (12, 1), (13, 1), (1, 2), (14, 2), (15, 2), (16, 2), (17, 1)] (fun X => St W0 L X) (by kernel_rfl) (by kernel_rfl) (fun d _ c _ _ h => by cases d <;> exact h) (HS.out.drop.drop.turn (Below.drew (Below.refl _ _))) (fun X hXe _ => ?_)
        have HX := hid (show St W0 (Row (.slice B k d) 22 1 k xs :: Vals xs ((rs.take k).map fun r => r.take size) :: L) X from by rw [hXe]; exact HS.out.turn (Below.drew (Below.refl _ _)))
        clear hXe HS
        repeat (apply wpOrd_class; ((· first | (rw [List.getElem?_toArray, List.getElem?_cons_zero]; done) | (simp only [List.getElem?_toArray, List.getElem?_cons_succ, List.getElem?_cons_zero]; exact rfl))); (· exact rfl); intro K hK; apply Exists.intro; refine And.intro (fun X' hX' => ?_) ?_; (· have hq := HC.out _ hX'; clear hX'; go_simp; (try go_bits); first | done | exact rfl | exact ⟨rfl, rfl⟩); go_simp; refine hK _ _ ?_; clear hK K)
        (apply wpOrd_comes; ((· first | (rw [List.getElem?_toArray, List.getElem?_cons_zero]; done) | (simp only [List.getElem?_toArray, List.getElem?_cons_succ, List.getElem?_cons_zero]; exact rfl))); intro N hN)
        go_wp2_with (refine wpList_buildSlice0 rfl rfl Try.underlying22 be5.size ?_; intro gs X1 hS hgs hges hX1)
        have H1 := hid (HX.out.newRow0 (e := 5) (s := 1) hX1 hges hS)
        clear hS hgs hges hX1 HX
        refine hN _ _ (fun _ => H1.out.drop.drop.drop) ?_
        clear hN N
        (apply wpOrd_comes; ((· first | (rw [List.getElem?_toArray, List.getElem?_cons_zero]; done) | (simp only [List.getElem?_toArray, List.getElem?_cons_succ, List.getElem?_cons_zero]; exact rfl))); intro N hN)
        go_wp2_with (refine wpList_append_bytes _ _ 22 rfl (.slice (some ⟨gs, 0, none⟩) 0 0) rfl Bk ck rt rfl rfl 5 i5 Try.underlying22 HI.out.1 HI.out.2.1 HI.out.2.2.1 HI.out.2.2.2 0 [] H1.out.row (HBT.out _ H1.out.drop.drop.drop) (by omega) ?_; intro v' X3 hO2 hT2 hfr)
        have H2 := hid (show St W0 (Row v' 5 1 rt.length (bvL rt) :: Row (.slice B k d) 22 1 k xs :: Vals xs ((rs.take k).map fun r => r.take size) :: L) X3 from by
          have := H1.out.grow hO2 hT2 hfr
          rw [Nat.zero_add, List.nil_append] at this
          exact this)
        clear hO2 hT2 hfr H1
        obtain ⟨B1, d1, rfl, _⟩ := row_slice H2.out
        have H3 := hid (H2.out.row_val rfl)
        clear H2
        refine hN _ _ (fun _ => H3.out.drop.drop.drop) ?_
        clear hN N
        (apply wpOrd_comes; ((· first | (rw [List.getElem?_toArray, List.getElem?_cons_zero]; done) | (simp only [List.getElem?_toArray, List.getElem?_cons_succ, List.getElem?_cons_zero]; exact rfl))); intro N hN)
        go_wp2_with (refine wpList_buildSlice1 _ rfl (.slice B1 rt.length d1) (by simp [Act.eval]) rfl Try.underlying81 zero22 size22 (by decide) (by decide) rfl ?_; intro gn X4 hS hgs hges hX1b)
        have H4 := hid (H3.out.turn hX1b)
        have HNW := hid (news_box hS [.slice B1 rt.length d1] rfl)
        clear hS hgs hges hX1b H3
        refine hN _ _ (fun _ => H4.out.drop.drop.drop) ?_
        clear hN N
        (apply wpOrd_comes; ((· first | (rw [List.getElem?_toArray, List.getElem?_cons_zero]; done) | (simp only [List.getElem?_toArray, List.getElem?_cons_succ, List.getElem?_cons_zero]; exact rfl))); intro N hN)
        go_wp2_with (refine wpList_append_at _ _ _ rfl (.slice B k d) rfl ⟨gn, 0, none⟩ 1 1 rfl rfl 22 i22 (.slice none 0 0) 1 24 Try.underlying81 HJ.out.1 HJ.out.2.1 HJ.out.2.2.1 HJ.out.2.2.2 rfl (by decide) k xs H4.out.at2.row [.slice B1 rt.length d1] rfl HNW.out (by simp [Value.oneCell']) (by unfold maxLen; omega) (by omega) ?_; intro v' X5 hO2 hT2 hfr)
        have H5 := hid (H4.out.at2.grow hO2 hT2 hfr)
        clear hO2 hT2 hfr H4
        refine hN _ _ (fun _ => H5.out.drop.drop.drop) ?_
        clear hN N
        repeat (apply wpOrd_class; ((· first | (rw [List.getElem?_toArray, List.getElem?_cons_zero]; done) | (simp only [List.getElem?_toArray, List.getElem?_cons_succ, List.getElem?_cons_zero]; exact rfl))); (· exact rfl); intro K hK; apply Exists.intro; refine And.intro (fun X' hX' => ?_) ?_; (· have hq := HC.out _ hX'; clear hX'; go_simp; (try go_bits); first | done | exact rfl | exact ⟨rfl, rfl⟩); go_simp; refine hK _ _ ?_; clear hK K)
        refine wpOrd_done ?_
        have H6 := hid H5.out.at3.at3.at2.vals_join.at2
        rw [← HT.out] at H6
        clear H5
        obtain ⟨B2, d2, rfl, _⟩ := row_slice H6.out
        go_wp2_with fail
        go_roundw
        case rel => exact ⟨k + 1, B2, d2, xs ++ [.slice B1 rt.length d1], by omega, by omega, by go_num, rfl, H6⟩
        case measure => simp [intOf]; omega
      · have e2 : ¬ (k : Int) < (most : Int) := by omega
        have HE := hid (show fewL rs most size = (rs.take k).map fun r => r.take size by unfold fewL; rw [show most = k by omega])
        have HL := hid (show k = (fewL rs most size).length by rw [HE.out, List.length_map, List.length_take]; omega)
        go_wp2_with fail
        go_ret
        refine ⟨B, d, by rw [← HL.out]; rfl, ?_⟩
        rw [← HL.out]
        refine St.recs ?_ (xs := xs)
        rw [← HL.out, HE.out]
        exact HS.out
    · have e1 : ¬ (k : Int) < (rs.length : Int) := by omega
      have HE := hid (show fewL rs most size = (rs.take k).map fun r => r.take size by unfold fewL; rw [List.take_of_length_le (by omega), List.take_of_length_le (by omega)])
      have HL := hid (show k = (fewL rs most size).length by rw [HE.out, List.length_map, List.length_take]; omega)
      go_wp2_with fail
      go_ret
      refine ⟨B, d, by rw [← HL.out]; rfl, ?_⟩
      rw [← HL.out]
      refine St.recs ?_ (xs := xs)
      rw [← HL.out, HE.out]
      exact HS.out
end
end Go.Proofs.Ythmchbdhikakhaa
/- The builtin copy of a text into a block that is known whole. -/
namespace Go.Cu
open Go Go.RowKit
theorem byteCells_bvL (r : List UInt8) : Lib.byteCells r = bvL r := rfl
theorem strB_extract (r : List UInt8) (a b : Nat) : (strB r).extract a b = strB ((r.drop a).take (b - a)) := ByteArray.extract_mk r a b
theorem wpList_copyS {P : Program} {w : World} {ops : Array Oper} {rest : List Oper} {o : Oper} {a : Act} {Q : Exit → Act → World → Prop} (hw : Region.wanted o (yielded ops a.tmps) = true) (d s : Operand) (dT sT : TypeId)
    (ho : o.op = .call { callee := .builtin .copy, args := #[d, s], argTypes := #[dT, sT] }) (elem : TypeId) (hu : P.underlying dT = some (.slice elem)) (hsz : (P.info? elem).map (·.size) = some 1)
    (g off dLen dCap : Nat) (r : List UInt8) (hd : a.eval d = .slice (some ⟨g, off, none⟩) dLen dCap) (hs : a.eval s = .string (strB r))
    (cur : Array Value) (t : TypeId) (hg : w.heap[g]? = some (.cells cur t (0, 0))) (hle : r.length ≤ dLen) (hfit : off + r.length ≤ cur.size)
    (h : ∀ w' : World, w'.heap[g]? = some (.cells (putAt cur off (bvL r)) t (0, 0)) → Tch (· = g) w w' → wpList P ops Q rest (a.put o.dst (goInt r.length)) w') : wpList P ops Q (o :: rest) a w := by
  refine wpList_wanted hw fun K hK => ?_
  have hrun := Lib.run_copy_row_string (P := P) w dT sT o.type elem g off dLen dCap (strB r) cur t hu hsz hg (by rw [strB_size]; exact hle) (by rw [strB_size]; exact hfit)
  rw [strB_size, show (strB r).data.toList = r from rfl, byteCells_bvL] at hrun
  rw [show (cur.toList.take off ++ bvL r ++ cur.toList.drop (off + r.length)).toArray = putAt cur off (bvL r) from by unfold putAt; rw [bvL_len]] at hrun
  have hz := hK _ _ (h _ (setRow_heap w g cur _ t _ hg) ⟨rfl, rfl, rfl, by simp, fun k _ hk => setRow_other w g k _ hk⟩)
  unfold Oper.wp execOp
  simp only [ho, resolve, invoke, builtin, Sem.run_bind, Sem.run_pure, Result.andThen_ok, List.map_toArray, List.map_cons, List.map_nil, hd, hs, hrun]
  exact hz
end Go.Cu
/- Lay: a record's blocks, as the document says. -/
namespace Go.Proofs.Ythmchbdhikakhaa
open Go.RowKit Go.Cu
set_option maxRecDepth 20000 in
theorem build32_one (b : UInt8) (W : World) : (Instr.build 32 #[(0, .int .u8 b.toNat)]).run Try.prog W = .ok (.agg (bv (oneB b))) W := by kernel_rfl
/-- The cells of a record's first blocks. -/
def layV (n m : Nat) (r : List UInt8) : List Value := (List.range m).flatMap fun k => bvL (blockB n k r)
theorem layV_succ (n m : Nat) (r : List UInt8) : layV n (m + 1) r = layV n m r ++ bvL (blockB n m r) := by
  unfold layV
  rw [List.range_succ, List.flatMap_append, List.flatMap_singleton]
theorem layV_len (n : Nat) (r : List UInt8) : ∀ m, (layV n m r).length = m * 128
  | 0 => rfl
  | m + 1 => by rw [layV_succ, List.length_append, layV_len n r m, bvL_len, blockB_len]; omega
theorem oneB_rest : oneB 2 = restL ++ List.replicate 117 0 := by decide
theorem headTo_zero (n : Nat) : headTo n 0 = (oneB 2).set 0 1 := rfl
section
variable {W0 W : World} {L : List Atm}
set_option maxRecDepth 20000 in
set_option maxHeartbeats 8000000 in
theorem lay_st {n : Nat} {r : List UInt8} (h : St W0 L W) (hn : n ≤ 1000000) (hr : r.length ≤ 65535) :
    Calls Try.prog 52 #[.int .i64 n, sv r] W fun x w' => ∃ B d, x = .returned (.slice B (blocksN r.length) d) ∧ St W0 (Row (.slice B (blocksN r.length) d) 32 128 (blocksN r.length) (layV n (blocksN r.length) r) :: L) w' := by
  have HH := hid h
  have BB := fun W => run_buildK (build32_one 2 W)
  simp only [show (((2 : UInt8).toNat : Nat) : Int) = 2 from rfl] at BB
  have HZ1 := hid ((bv_size (oneB 2)).trans (oneB_len 2))
  obtain ⟨i32, hi, hiz, his, hib⟩ := info_parts info32
  have HI := hid (And.intro hi (And.intro hiz (And.intro his hib)))
  clear hi hiz his hib h
  obtain ⟨nb, hnb⟩ : ∃ nb, nb = blocksN r.length := ⟨_, rfl⟩
  have hnb1 : 1 ≤ nb := by rw [hnb]; exact blocksN_pos _
  have hnb2 : nb ≤ 561 := by rw [hnb]; exact blocksN_le hr
  have hnb3 : r.length ≤ 117 * nb := by rw [hnb]; exact blocksN_fits _
  have hnb4 : 117 * (nb - 1) ≤ r.length := by rw [hnb]; unfold blocksN; omega
  have HBK := hid (fun X => (rblocks_any (r.length : Int) X).mono (fun x w' hx => (⟨by rw [hx.1, blocksI_nat hr, ← hnb], hx.2⟩ : x = .returned (.int .i64 nb) ∧ X = w')))
  rw [← hnb]
  clear hnb
  have hsz : (strB r).size = r.length := strB_size r
  rw [sv_eq]
  go_enter Try.func52, Try.ntmps52
  go_wp2_with fail
  go_loopw [5, 6, 7, 8] (fun o i _ _ X => ∃ (k : Nat) (B : Option Addr) (d : Nat), k ≤ nb ∧ i = .int .i64 k ∧ o = .slice B k d ∧ Hid (St W0 (Row (.slice B k d) 32 128 k (layV n k r) :: L) X)) (fun _ i _ _ _ => nb - (intOf i).toNat)
  case atStart => exact ⟨0, none, 0, Nat.zero_le _, rfl, rfl, hid (HH.out.nilRow 32 128)⟩
  case round =>
    clear HH
    obtain ⟨k, B, d, hk, rfl, rfl, HS⟩ := hrel
    by_cases hlt : k < nb
    · have e1 : (k : Int) < (nb : Int) := by omega
      have hkl : 117 * k ≤ r.length := by omega
      have tok1 : True := trivial
      by_cases h0 : k = 0
      · subst h0
        go_wp2_with (first | (go_at_call 49; (with_reducible refine (HBK.out _).mono ?_); rintro x w1 ⟨rfl, rfl⟩) | (refine wpList_alloc 32 rfl rfl (.agg (bv zeroB)) zero32 ?_; intro gb W1 hB hbl hbg hW1) | (have _t := tok1; refine wpList_store_box 32 _ _ rfl gb rfl rfl (bv (oneB 2)) rfl 128 size32 HZ1.out (bv_one _) 32 _ hB bvz ?_; intro W2 hB2 hT2 hs2; have H2 := hid ((HS.out.newBlk hW1 hbg hB).put hB2 hT2); clear hB2 hT2 hs2 hB hbl hbg hW1 tok1; have fg0 : W2.frozen? ⟨gb, 0, none⟩ = false := frozen_of_row W2 gb 0 _ _ H2.out.blk; have cg0 : W2.cell? ⟨gb, 0, none⟩ = some (.int .u8 (bt (oneB 2) 0)) := (blk_cell H2.out 0).trans (bv_get _ _ (by rw [oneB_len]; decide))))
        go_loopw [8] (fun v X => ∃ m : Nat, m ≤ 8 ∧ v = .int .i64 m ∧ Hid (St W0 (Blk gb (bv (headTo n m)) 32 :: Row (.slice B 0 d) 32 128 0 (layV n 0 r) :: L) X)) (fun v _ => 8 - (intOf v).toNat)
        case atStart =>
          refine ⟨0, by omega, rfl, hid ?_⟩
          have h := H2.out.setCell 0 (.int .u8 ((1 : UInt8).toNat : Int))
          rw [bv_set] at h
          exact h
        case round =>
          clear H2 HS fg0 cg0
          obtain ⟨m, hm, rfl, HS⟩ := hrel
          by_cases h8 : m < 8
          · have e2 : (m : Int) < 8 := by omega
            have cg : wr.cell? ⟨gb, 1 + m, none⟩ = some (.int .u8 (bt (headTo n m) (1 + m))) := (blk_cell HS.out (1 + m)).trans (bv_get _ _ (by rw [headTo_len n hm]; omega))
            have fg : wr.frozen? ⟨gb, 1 + m, none⟩ = false := frozen_of_row wr gb (1 + m) _ _ HS.out.blk
            go_wp2_with fail
            go_roundw
            case rel =>
              refine ⟨m + 1, by omega, by go_num, hid ?_⟩
              have h := HS.out.setCell (1 + m) (.int .u8 ((UInt8.ofNat (n / 2 ^ (8 * (7 - m)))).toNat : Int))
              rw [bv_set, headTo_step n h8, u8_cast] at h
              simpa using h
            case measure => simp [intOf]; omega
          · have e2 : ¬ (m : Int) < 8 := by omega
            obtain rfl : m = 8 := by omega
            have cg9 : wr.cell? ⟨gb, 9, none⟩ = some (.int .u8 (bt (headTo n 8) 9)) := (blk_cell HS.out 9).trans (bv_get _ _ (by rw [headTo_len n hm]; omega))
            have cg10 : wr.cell? ⟨gb, 10, none⟩ = some (.int .u8 (bt (headTo n 8) 10)) := (blk_cell HS.out 10).trans (bv_get _ _ (by rw [headTo_len n hm]; omega))
            have fg9 : wr.frozen? ⟨gb, 9, none⟩ = false := frozen_of_row wr gb 9 _ _ HS.out.blk
            have fg10 : wr.frozen? ⟨gb, 10, none⟩ = false := frozen_of_row wr gb 10 _ _ HS.out.blk
            have h10 := (HS.out.setCell 9 (.int .u8 ((UInt8.ofNat (r.length / 256)).toNat : Int))).setCell 10 (.int .u8 ((UInt8.ofNat r.length).toNat : Int))
            rw [bv_set, bv_set, headTo_end, u8_cast, u8_cast, show ((r.length / 256 : Nat) : Int) % 256 = (r.length : Int) / 256 by omega] at h10
            have H10 := hid h10
            clear h10
            go_wp2_with fail
            obtain ⟨W4, hW4⟩ : ∃ W4, W4 = (wr.setCell ⟨gb, 9, none⟩ (.int .u8 ((r.length : Int) / 256))).setCell ⟨gb, 10, none⟩ (.int .u8 ((r.length : Int) % 256)) := ⟨_, rfl⟩
            rw [← hW4] at H10 ⊢
            clear hW4 fg9 fg10 cg9 cg10 HS
            have HXL := hid (show (bv (headL n r.length ++ List.replicate 117 0)).size = 128 by rw [bv_size, List.length_append, List.length_replicate, headL_len])
            have HPL := hid (headL_len n r.length)
            have HBL := hid (show blockB n 0 r = headL n r.length ++ padL (chunkL 0 r) by unfold blockB; rw [if_pos rfl])
            have HBS := hid ((bv_size (blockB n 0 r)).trans (blockB_len n 0 r))
            have HBV := hid (show (bvL (blockB n 0 r)).length = 1 * 128 by rw [bvL_len, blockB_len])
            have HLV := hid (layV_succ n 0 r)
            by_cases hlast : r.length < 117
            · have e3 : (r.length : Int) < 117 := by omega
              have e4 : (0 : Int) ≤ (r.length : Int) := by omega
              have HEX : (strB r).extract (0) (r.length) = strB (chunkL 0 r) := by
                rw [strB_extract]
                unfold chunkL
                rw [List.take_of_length_le (by rw [List.length_drop]; omega), List.take_of_length_le (by rw [List.length_drop]; omega)]
              
              clear hlast
              refine wp_region_ord [11] [(0, 1), (1, 1), (2, 1), (3, 1), (4, 1), (5, 1), (6, 1), (7, 1), (8, 1), (9, 1), (10, 1), (11, 2)] (fun X => X = W4.drew) (by kernel_rfl) (by kernel_rfl) (fun d _ c _ _ h => by cases d <;> exact h) rfl (fun X hXe _ => ?_)
              subst hXe
              repeat (apply wpOrd_class; ((· first | (rw [List.getElem?_toArray, List.getElem?_cons_zero]; done) | (simp only [List.getElem?_toArray, List.getElem?_cons_succ, List.getElem?_cons_zero]; exact rfl))); (· exact rfl); intro K hK; apply Exists.intro; refine And.intro (fun X' hX' => ?_) ?_; (· go_simp; (try go_bits); first | done | exact rfl | exact ⟨rfl, rfl⟩); go_simp; refine hK _ _ ?_; clear hK K)
              (apply wpOrd_comes; ((· first | (rw [List.getElem?_toArray, List.getElem?_cons_zero]; done) | (simp only [List.getElem?_toArray, List.getElem?_cons_succ, List.getElem?_cons_zero]; exact rfl))); intro N hN)
              have H11 := hid (H10.out.turn (Below.drew (Below.refl _ _)))
              refine wpList_copyS rfl _ _ 22 9 rfl 5 Try.underlying22 be5.size gb 11 117 117 (chunkL 0 r) rfl (by first | exact (congrArg Value.string HEX) | rfl) _ 32 H11.out.blk (chunkL_le _ _) (by rw [HXL.out]; have := chunkL_le 0 r; omega) ?_
              intro W5 hW5 hT5
              rw [pre_put (headL n r.length) _ HPL.out (chunkL_le _ _), ← HBL.out] at hW5
              have H12 := hid (H11.out.put hW5 hT5)
              refine hN _ _ (fun h => by cases h) (wpOrd_done ?_)
              clear hN N H11 H10
              have LB : (loadK 32 (.pointer (some ⟨gb, 0, none⟩))).run Try.prog W5 = .ok (.value (.agg (bv (blockB n 0 r)))) W5 := run_loadK_box hW5 Try.underlying32 rfl size32 HBS.out
              clear hW5 hT5
              go_wp2_with (first | (refine wpList_buildSlice1 _ rfl (.agg (bv (blockB n 0 r))) (by simp [Act.eval]) rfl Try.underlying48 zero32 size32 (by decide) (by decide) HBS.out ?_; intro gn X2 hS hgs hges hX1b; have HS2 := hid (H12.out.drop.turn hX1b); have HNW := hid (news_box hS (bvL (blockB n 0 r)) rfl); clear hS hgs hges hX1b) | (refine wpList_append_at _ _ _ rfl (.slice B 0 d) rfl ⟨gn, 0, none⟩ 1 1 rfl rfl 32 i32 (.agg (bv zeroB)) 128 128 Try.underlying48 HI.out.1 HI.out.2.1 HI.out.2.2.1 HI.out.2.2.2 bvz (by decide) 0 (layV n 0 r) HS2.out.row (bvL (blockB n 0 r)) HBV.out HNW.out (bvL_one _) (by unfold maxLen; omega) (by omega) ?_; intro v' X3 hO2 hT2 hfr; have HS3 := hid (HS2.out.grow hO2 hT2 hfr); clear hO2 hT2 hfr))
              rw [← HLV.out] at HS3
              obtain ⟨B2, d2, rfl, _⟩ := row_slice HS3.out
              go_roundw
              case rel => exact ⟨1, B2, d2, hnb1, by go_num, rfl, HS3⟩
              case measure => simp [intOf]; omega
            · have e3 : ¬ (r.length : Int) < 117 := by omega
              have e4 : (0 : Int) ≤ 117 := by omega
              have HEX : (strB r).extract (0) (117) = strB (chunkL 0 r) := by
                rw [strB_extract]
                unfold chunkL
                rfl
              have e6 : 117 ≤ (r.length : Int) := by omega
              clear hlast
              refine wp_region_ord [11] [(0, 1), (1, 1), (2, 1), (3, 1), (4, 1), (5, 1), (6, 1), (7, 1), (8, 1), (9, 1), (10, 1), (11, 2)] (fun X => X = W4.drew) (by kernel_rfl) (by kernel_rfl) (fun d _ c _ _ h => by cases d <;> exact h) rfl (fun X hXe _ => ?_)
              subst hXe
              repeat (apply wpOrd_class; ((· first | (rw [List.getElem?_toArray, List.getElem?_cons_zero]; done) | (simp only [List.getElem?_toArray, List.getElem?_cons_succ, List.getElem?_cons_zero]; exact rfl))); (· exact rfl); intro K hK; apply Exists.intro; refine And.intro (fun X' hX' => ?_) ?_; (· go_simp; (try go_bits); first | done | exact rfl | exact ⟨rfl, rfl⟩); go_simp; refine hK _ _ ?_; clear hK K)
              (apply wpOrd_comes; ((· first | (rw [List.getElem?_toArray, List.getElem?_cons_zero]; done) | (simp only [List.getElem?_toArray, List.getElem?_cons_succ, List.getElem?_cons_zero]; exact rfl))); intro N hN)
              have H11 := hid (H10.out.turn (Below.drew (Below.refl _ _)))
              refine wpList_copyS rfl _ _ 22 9 rfl 5 Try.underlying22 be5.size gb 11 117 117 (chunkL 0 r) rfl (by first | exact (congrArg Value.string HEX) | rfl) _ 32 H11.out.blk (chunkL_le _ _) (by rw [HXL.out]; have := chunkL_le 0 r; omega) ?_
              intro W5 hW5 hT5
              rw [pre_put (headL n r.length) _ HPL.out (chunkL_le _ _), ← HBL.out] at hW5
              have H12 := hid (H11.out.put hW5 hT5)
              refine hN _ _ (fun h => by cases h) (wpOrd_done ?_)
              clear hN N H11 H10
              have LB : (loadK 32 (.pointer (some ⟨gb, 0, none⟩))).run Try.prog W5 = .ok (.value (.agg (bv (blockB n 0 r)))) W5 := run_loadK_box hW5 Try.underlying32 rfl size32 HBS.out
              clear hW5 hT5
              go_wp2_with (first | (refine wpList_buildSlice1 _ rfl (.agg (bv (blockB n 0 r))) (by simp [Act.eval]) rfl Try.underlying48 zero32 size32 (by decide) (by decide) HBS.out ?_; intro gn X2 hS hgs hges hX1b; have HS2 := hid (H12.out.drop.turn hX1b); have HNW := hid (news_box hS (bvL (blockB n 0 r)) rfl); clear hS hgs hges hX1b) | (refine wpList_append_at _ _ _ rfl (.slice B 0 d) rfl ⟨gn, 0, none⟩ 1 1 rfl rfl 32 i32 (.agg (bv zeroB)) 128 128 Try.underlying48 HI.out.1 HI.out.2.1 HI.out.2.2.1 HI.out.2.2.2 bvz (by decide) 0 (layV n 0 r) HS2.out.row (bvL (blockB n 0 r)) HBV.out HNW.out (bvL_one _) (by unfold maxLen; omega) (by omega) ?_; intro v' X3 hO2 hT2 hfr; have HS3 := hid (HS2.out.grow hO2 hT2 hfr); clear hO2 hT2 hfr))
              rw [← HLV.out] at HS3
              obtain ⟨B2, d2, rfl, _⟩ := row_slice HS3.out
              go_roundw
              case rel => exact ⟨1, B2, d2, hnb1, by go_num, rfl, HS3⟩
              case measure => simp [intOf]; omega
      · have e5 : ((k : Int) == 0) = false := by rw [beq_eq_false_iff_ne]; omega
        go_wp2_with (first | (go_at_call 49; (with_reducible refine (HBK.out _).mono ?_); rintro x w1 ⟨rfl, rfl⟩) | (refine wpList_alloc 32 rfl rfl (.agg (bv zeroB)) zero32 ?_; intro gb W1 hB hbl hbg hW1) | (have _t := tok1; refine wpList_store_box 32 _ _ rfl gb rfl rfl (bv (oneB 2)) rfl 128 size32 HZ1.out (bv_one _) 32 _ hB bvz ?_; intro W2 hB2 hT2 hs2; have H2 := hid ((HS.out.newBlk hW1 hbg hB).put hB2 hT2); clear hB2 hT2 hs2 hB hbl hbg hW1 tok1))
        rw [oneB_rest] at H2
        have HXL := hid (show (bv (restL ++ List.replicate 117 0)).size = 128 by rw [bv_size, List.length_append, List.length_replicate, restL_len])
        have HPL := hid restL_len
        have HBL := hid (show blockB n k r = restL ++ padL (chunkL k r) by unfold blockB; rw [if_neg h0])
        have HBS := hid ((bv_size (blockB n k r)).trans (blockB_len n k r))
        have HBV := hid (show (bvL (blockB n k r)).length = 1 * 128 by rw [bvL_len, blockB_len])
        have HLV := hid (layV_succ n k r)
        by_cases hlast : r.length < 117 * k + 117
        · have e3 : (r.length : Int) < 117 * (k : Int) + 117 := by omega
          have e4 : (117 * (k : Int) : Int) ≤ (r.length : Int) := by omega
          have HEX : (strB r).extract (117 * k) (r.length) = strB (chunkL k r) := by
            rw [strB_extract]
            unfold chunkL
            rw [List.take_of_length_le (by rw [List.length_drop]; omega), List.take_of_length_le (by rw [List.length_drop]; omega)]
          
          clear hlast
          refine wp_region_ord [11] [(0, 1), (1, 1), (2, 1), (3, 1), (4, 1), (5, 1), (6, 1), (7, 1), (8, 1), (9, 1), (10, 1), (11, 2)] (fun X => X = W2.drew) (by kernel_rfl) (by kernel_rfl) (fun d _ c _ _ h => by cases d <;> exact h) rfl (fun X hXe _ => ?_)
          subst hXe
          repeat (apply wpOrd_class; ((· first | (rw [List.getElem?_toArray, List.getElem?_cons_zero]; done) | (simp only [List.getElem?_toArray, List.getElem?_cons_succ, List.getElem?_cons_zero]; exact rfl))); (· exact rfl); intro K hK; apply Exists.intro; refine And.intro (fun X' hX' => ?_) ?_; (· go_simp; (try go_bits); first | done | exact rfl | exact ⟨rfl, rfl⟩); go_simp; refine hK _ _ ?_; clear hK K)
          (apply wpOrd_comes; ((· first | (rw [List.getElem?_toArray, List.getElem?_cons_zero]; done) | (simp only [List.getElem?_toArray, List.getElem?_cons_succ, List.getElem?_cons_zero]; exact rfl))); intro N hN)
          have H11 := hid (H2.out.turn (Below.drew (Below.refl _ _)))
          refine wpList_copyS rfl _ _ 22 9 rfl 5 Try.underlying22 be5.size gb 11 117 117 (chunkL k r) rfl (by first | exact (congrArg Value.string HEX) | rfl) _ 32 H11.out.blk (chunkL_le _ _) (by rw [HXL.out]; have := chunkL_le k r; omega) ?_
          intro W5 hW5 hT5
          rw [pre_put (restL) _ HPL.out (chunkL_le _ _), ← HBL.out] at hW5
          have H12 := hid (H11.out.put hW5 hT5)
          refine hN _ _ (fun h => by cases h) (wpOrd_done ?_)
          clear hN N H11 H2
          have LB : (loadK 32 (.pointer (some ⟨gb, 0, none⟩))).run Try.prog W5 = .ok (.value (.agg (bv (blockB n k r)))) W5 := run_loadK_box hW5 Try.underlying32 rfl size32 HBS.out
          clear hW5 hT5
          go_wp2_with (first | (refine wpList_buildSlice1 _ rfl (.agg (bv (blockB n k r))) (by simp [Act.eval]) rfl Try.underlying48 zero32 size32 (by decide) (by decide) HBS.out ?_; intro gn X2 hS hgs hges hX1b; have HS2 := hid (H12.out.drop.turn hX1b); have HNW := hid (news_box hS (bvL (blockB n k r)) rfl); clear hS hgs hges hX1b) | (refine wpList_append_at _ _ _ rfl (.slice B k d) rfl ⟨gn, 0, none⟩ 1 1 rfl rfl 32 i32 (.agg (bv zeroB)) 128 128 Try.underlying48 HI.out.1 HI.out.2.1 HI.out.2.2.1 HI.out.2.2.2 bvz (by decide) k (layV n k r) HS2.out.row (bvL (blockB n k r)) HBV.out HNW.out (bvL_one _) (by unfold maxLen; omega) (by omega) ?_; intro v' X3 hO2 hT2 hfr; have HS3 := hid (HS2.out.grow hO2 hT2 hfr); clear hO2 hT2 hfr))
          rw [← HLV.out] at HS3
          obtain ⟨B2, d2, rfl, _⟩ := row_slice HS3.out
          go_roundw
          case rel => exact ⟨k + 1, B2, d2, by omega, by go_num, rfl, HS3⟩
          case measure => simp [intOf]; omega
        · have e3 : ¬ (r.length : Int) < 117 * (k : Int) + 117 := by omega
          have e4 : (117 * (k : Int) : Int) ≤ 117 * (k : Int) + 117 := by omega
          have HEX : (strB r).extract (117 * k) (117 * k + 117) = strB (chunkL k r) := by
            rw [strB_extract]
            unfold chunkL
            rw [show 117 * k + 117 - 117 * k = 117 by omega]
          have e6 : 117 * (k : Int) + 117 ≤ (r.length : Int) := by omega
          clear hlast
          refine wp_region_ord [11] [(0, 1), (1, 1), (2, 1), (3, 1), (4, 1), (5, 1), (6, 1), (7, 1), (8, 1), (9, 1), (10, 1), (11, 2)] (fun X => X = W2.drew) (by kernel_rfl) (by kernel_rfl) (fun d _ c _ _ h => by cases d <;> exact h) rfl (fun X hXe _ => ?_)
          subst hXe
          repeat (apply wpOrd_class; ((· first | (rw [List.getElem?_toArray, List.getElem?_cons_zero]; done) | (simp only [List.getElem?_toArray, List.getElem?_cons_succ, List.getElem?_cons_zero]; exact rfl))); (· exact rfl); intro K hK; apply Exists.intro; refine And.intro (fun X' hX' => ?_) ?_; (· go_simp; (try go_bits); first | done | exact rfl | exact ⟨rfl, rfl⟩); go_simp; refine hK _ _ ?_; clear hK K)
          (apply wpOrd_comes; ((· first | (rw [List.getElem?_toArray, List.getElem?_cons_zero]; done) | (simp only [List.getElem?_toArray, List.getElem?_cons_succ, List.getElem?_cons_zero]; exact rfl))); intro N hN)
          have H11 := hid (H2.out.turn (Below.drew (Below.refl _ _)))
          refine wpList_copyS rfl _ _ 22 9 rfl 5 Try.underlying22 be5.size gb 11 117 117 (chunkL k r) rfl (by first | exact (congrArg Value.string HEX) | rfl) _ 32 H11.out.blk (chunkL_le _ _) (by rw [HXL.out]; have := chunkL_le k r; omega) ?_
          intro W5 hW5 hT5
          rw [pre_put (restL) _ HPL.out (chunkL_le _ _), ← HBL.out] at hW5
          have H12 := hid (H11.out.put hW5 hT5)
          refine hN _ _ (fun h => by cases h) (wpOrd_done ?_)
          clear hN N H11 H2
          have LB : (loadK 32 (.pointer (some ⟨gb, 0, none⟩))).run Try.prog W5 = .ok (.value (.agg (bv (blockB n k r)))) W5 := run_loadK_box hW5 Try.underlying32 rfl size32 HBS.out
          clear hW5 hT5
          go_wp2_with (first | (refine wpList_buildSlice1 _ rfl (.agg (bv (blockB n k r))) (by simp [Act.eval]) rfl Try.underlying48 zero32 size32 (by decide) (by decide) HBS.out ?_; intro gn X2 hS hgs hges hX1b; have HS2 := hid (H12.out.drop.turn hX1b); have HNW := hid (news_box hS (bvL (blockB n k r)) rfl); clear hS hgs hges hX1b) | (refine wpList_append_at _ _ _ rfl (.slice B k d) rfl ⟨gn, 0, none⟩ 1 1 rfl rfl 32 i32 (.agg (bv zeroB)) 128 128 Try.underlying48 HI.out.1 HI.out.2.1 HI.out.2.2.1 HI.out.2.2.2 bvz (by decide) k (layV n k r) HS2.out.row (bvL (blockB n k r)) HBV.out HNW.out (bvL_one _) (by unfold maxLen; omega) (by omega) ?_; intro v' X3 hO2 hT2 hfr; have HS3 := hid (HS2.out.grow hO2 hT2 hfr); clear hO2 hT2 hfr))
          rw [← HLV.out] at HS3
          obtain ⟨B2, d2, rfl, _⟩ := row_slice HS3.out
          go_roundw
          case rel => exact ⟨k + 1, B2, d2, by omega, by go_num, rfl, HS3⟩
          case measure => simp [intOf]; omega
    · have e1 : ¬ (k : Int) < (nb : Int) := by omega
      obtain rfl : k = nb := by omega
      go_wp2_with (go_at_call 49; (with_reducible refine (HBK.out _).mono ?_); rintro x w1 ⟨rfl, rfl⟩)
      go_ret
      exact ⟨B, d, rfl, HS.out⟩
end
end Go.Proofs.Ythmchbdhikakhaa
/- Records among a law's parameters. -/
namespace Go.Cu
open Go Go.RowKit Go.ChangeShapes Go.WideShapes
section
variable {H : Type} {enc : TypeId × Value → H} {P : Program} {w : World} {base : Nat} {spare : Nat → Bool} {held : Bool}
theorem bytes_cells2 {t e : TypeId} {fuel : Nat} {cs : List Value} {x : DataW H × List MemPlace} (ht : P.underlying t = some (.slice e)) (he : P.underlying e = some (.int .u8)) (hc : P.cellsOf e = 1) (h : DataW.trod enc P w base spare held fuel t cs = some x) :
    ∃ (A : Option Addr) (c : Nat) (l : List UInt8), cs = [.slice A l.length c] ∧ l.length ≤ c ∧ c ≤ maxLen ∧ BytesIn w A l := by
  obtain ⟨A, len, cap, rfl, h1, h2, _⟩ := slice_cells ht hc (by omega) h
  obtain ⟨A', c', l, e1, h3, h4⟩ := bytes_cells ht he hc h
  have e2 : Value.slice A len cap = .slice A' l.length c' := by simpa using e1
  injection e2 with p1 p2 p3
  subst p1 p2 p3
  exact ⟨A, cap, l, rfl, h1, h2, h4⟩
theorem recs_of {e : TypeId} {b : TypeId} (he : P.underlying e = some (.slice b)) (hb : P.underlying b = some (.int .u8)) (hc : P.cellsOf b = 1) {A : Option Addr} {len : Nat}
    (h3 : ∀ i, i < len → ∃ (g o n : Nat) (cs' : List Value) (y : DataW H × List MemPlace), A = some ⟨g, o, none⟩ ∧ g < w.heap.size ∧ cs'.length = 1 ∧ (∀ k, k < 1 → w.cell? ⟨g, o + i * 1 + k, none⟩ = cs'[k]?) ∧ DataW.trod enc P w base spare held n e cs' = some y) :
    ∃ rs : List (List UInt8), rs.length = len ∧ RecsIn w A rs := by
  obtain ⟨rs, rfl, hp⟩ := choose_list (α := List UInt8) (p := fun i r => ∃ g o B c, A = some ⟨g, o, none⟩ ∧ w.cell? ⟨g, o + i, none⟩ = some (.slice B r.length c) ∧ r.length ≤ c ∧ c ≤ maxLen ∧ BytesIn w B r) len (fun i hi => by
    obtain ⟨g, o, n, cs', y, hA, hg, hl, hcell, hy⟩ := h3 i hi
    obtain ⟨B, c, r, rfl, h1, h2, h4⟩ := bytes_cells2 he hb hc hy
    have h5 := hcell 0 (by omega)
    exact ⟨r, g, o, B, c, hA, by simpa using h5, h1, h2, h4⟩)
  exact ⟨rs, rfl, hp⟩
theorem param_recs {r : Reach} {b0 : Nat} {t e b : TypeId} {v : Value} {d : DataW H} {p : List MemPlace} (ht : P.underlying t = some (.slice e)) (he : P.underlying e = some (.slice b)) (hb : P.underlying b = some (.int .u8)) (hc : P.cellsOf b = 1) (hc1 : P.cellsOf e = 1)
    (hv : Value.okWide P w r b0 t v) (h : DataW.Trod enc P w base spare held t v d p) : ∃ (A : Option Addr) (c : Nat) (rs : List (List UInt8)), v = .slice A rs.length c ∧ RecsIn w A rs := by
  obtain ⟨A, len, cap, rfl, h1, h2, h3⟩ := param_slice ht hc1 (by omega) hv h
  obtain ⟨rs, rfl, hp⟩ := recs_of he hb hc h3
  exact ⟨A, cap, rs, rfl, hp⟩
theorem recs_cells {t e b : TypeId} {fuel : Nat} {cs : List Value} {x : DataW H × List MemPlace} (ht : P.underlying t = some (.slice e)) (he : P.underlying e = some (.slice b)) (hb : P.underlying b = some (.int .u8)) (hc : P.cellsOf b = 1) (hc1 : P.cellsOf e = 1)
    (h : DataW.trod enc P w base spare held fuel t cs = some x) : ∃ (A : Option Addr) (c : Nat) (rs : List (List UInt8)), cs = [.slice A rs.length c] ∧ RecsIn w A rs := by
  obtain ⟨A, len, cap, rfl, h1, h2, h3⟩ := slice_cells ht hc1 (by omega) h
  obtain ⟨rs, rfl, hp⟩ := recs_of he hb hc h3
  exact ⟨A, cap, rs, rfl, hp⟩
end
end Go.Cu
/- What ExtentZeros asks, plainly. -/
namespace Go.Proofs.Ythmchbdhikakhaa
open Go.RowKit Go.Cu
/-- A block of which only the last byte is set. -/
def tailB (b : UInt8) : Bk := List.replicate 127 0 ++ [b]
theorem tailB_len (b : UInt8) : (tailB b).length = 128 := by simp [tailB]
theorem tailB_zero : tailB 0 = zeroB := by decide
theorem tailB_inj {a b : UInt8} (h : tailB a = tailB b) : a = b := by
  unfold tailB at h
  have := List.append_inj_right' h rfl
  simpa using this
set_option maxRecDepth 20000 in
theorem build33_tail (b : UInt8) (W : World) : (Instr.build 33 #[(127, .int .u8 b.toNat)]).run Try.prog W = .ok (.agg (bv (tailB b))) W := by kernel_rfl
def gZ (l : List UInt8) : List Bk := l.map tailB
theorem gZ_start : gZ (List.replicate 20 0) = List.replicate 20 zeroB := by
  unfold gZ
  rw [List.map_replicate, tailB_zero]
theorem gZ_set (l : List UInt8) (i : Nat) (b : UInt8) : (gZ l).set i (tailB b) = gZ (l.set i b) := by
  unfold gZ
  rw [List.map_set]
theorem gZ_get (l : List UInt8) (i : Nat) : (gZ l).getD i zeroB = tailB (l.getD i 0) := by
  unfold gZ
  rw [List.getD_eq_getElem?_getD, List.getElem?_map, List.getD_eq_getElem?_getD]
  cases l[i]? with
  | none => exact tailB_zero.symm
  | some b => rfl
/-- Has one of the first k blocks of the i-th extent a byte? -/
def dirtyTo (l : List UInt8) (i k : Nat) : Bool := (List.range k).any fun j => l.getD (2 + 4 * i + j) 0 != 0
theorem dirty_step (l : List UInt8) (i k : Nat) : dirtyTo l i (k + 1) = (dirtyTo l i k || l.getD (2 + 4 * i + k) 0 != 0) := by
  unfold dirtyTo
  rw [List.range_succ, List.any_append]
  simp
theorem dirty_clear {l : List UInt8} {S : DS} (h : S.now = gZ l) (i : Nat) : S.clear (2 + i * 4) 4 = !dirtyTo l i 4 := by
  rw [Bool.eq_iff_iff, clear_iff]
  unfold dirtyTo
  rw [h]
  simp only [gZ_get, Bool.not_eq_true', List.any_eq_false, List.mem_range, bne_iff_ne, ne_eq, Decidable.not_not]
  constructor
  · intro hz j hj
    have := hz j hj
    rw [← tailB_zero] at this
    have := tailB_inj this
    rwa [show 2 + i * 4 + j = 2 + 4 * i + j by omega] at this
  · intro hz j hj
    rw [show 2 + i * 4 + j = 2 + 4 * i + j by omega, hz j hj, tailB_zero]
section
variable {W0 W : World} {L : List Atm}
theorem row_cell {A : Option Addr} {n c e : Nat} {xs : List Value} (h : St W0 (Row (.slice A n c) e 1 n xs :: L) W) {i : Nat} (hi : i < n) : ∃ g, A = some ⟨g, 0, none⟩ ∧ W.cell? ⟨g, i, none⟩ = xs[i]? := by
  obtain ⟨_, h2⟩ := h.row
  rcases h2 with ⟨_, h0⟩ | ⟨g, cap, cur, hv, _, hg, hcap, hmax, hcs, htk⟩
  · omega
  · obtain ⟨rfl, _⟩ : A = some ⟨g, 0, none⟩ ∧ c = cap := by
      injection hv with e1 e2 e3
      exact ⟨e1, e3⟩
    refine ⟨g, rfl, ?_⟩
    rw [cell_of_row W g i _ _ _ hg, ← htk, List.getElem?_take, if_pos (by omega)]
    simp
end
/-- A row of writes lies in memory. -/
structure WrD where
  at_ : Int
  by_ : UInt8
def WritesIn (W : World) (A : Option Addr) (row : List WrD) : Prop := ∀ i j, row[i]? = some j → ∃ g o, A = some ⟨g, o, none⟩ ∧ g < W.heap.size ∧ -9223372036854775808 ≤ j.at_ ∧ j.at_ ≤ 9223372036854775807 ∧
  W.cell? ⟨g, o + i * 2, none⟩ = some (.int .i64 j.at_) ∧ W.cell? ⟨g, o + i * 2 + 1, none⟩ = some (.int .u8 j.by_.toNat)
theorem zero75 (W : World) : (zeroValue 75).run Try.prog W = .ok (.agg (bv (List.replicate 20 0))) W := by kernel_rfl
end Go.Proofs.Ythmchbdhikakhaa
