/- A sum that goes on: plainly, and in memory. -/
import Derived.Test.YtnakbdgoaepehaaDoorShaPress
import Derived.Test.YtnakbdgoaepehaaDoorShaBase
import Derived.ArgAppend
namespace Go.Cu
open Go Go.RowKit
/-- The words behind so many blocks. -/
def absorbTo (ws : List UInt32) (all : List UInt8) : Nat → List UInt32
  | 0 => ws
  | i + 1 => pressW (absorbTo ws all i) ((all.drop (64 * i)).take 64)
theorem absorbTo_len {ws : List UInt32} (hw : ws.length = 8) (all : List UInt8) : ∀ i, (absorbTo ws all i).length = 8
  | 0 => hw
  | i + 1 => pressW_len (absorbTo_len hw all i) _
theorem absorbTo_left (ws : List UInt32) (m b : List UInt8) : ∀ k, 64 * k ≤ m.length → absorbTo ws (m ++ b) k = absorbTo ws m k
  | 0, _ => rfl
  | k + 1, h => by
    rw [absorbTo, absorbTo, absorbTo_left ws m b k (by omega)]
    congr 1
    rw [List.drop_append_of_le_length (by omega), List.take_append_of_le_length (by rw [List.length_drop]; omega)]
theorem absorbTo_join (ws : List UInt32) (m b : List UInt8) (k : Nat) (hk : 64 * k ≤ m.length) : ∀ i, absorbTo ws (m ++ b) (k + i) = absorbTo (absorbTo ws m k) (m.drop (64 * k) ++ b) i
  | 0 => absorbTo_left ws m b k hk
  | i + 1 => by
    rw [show k + (i + 1) = k + i + 1 by omega, absorbTo, absorbTo, absorbTo_join ws m b k hk i]
    congr 2
    rw [show 64 * (k + i) = 64 * k + 64 * i by omega, ← List.drop_drop, List.drop_append_of_le_length hk]
/-- What a sum holds behind a message: its words and what is left. -/
def wordsOf (m : List UInt8) : List UInt32 := absorbTo startL m (m.length / 64)
def restOf (m : List UInt8) : List UInt8 := m.drop (64 * (m.length / 64))
theorem restOf_len (m : List UInt8) : (restOf m).length = m.length % 64 := by
  unfold restOf
  rw [List.length_drop]
  omega
theorem wordsOf_len (m : List UInt8) : (wordsOf m).length = 8 := absorbTo_len startL_len _ _
theorem wordsOf_more (m b : List UInt8) : wordsOf (m ++ b) = absorbTo (wordsOf m) (restOf m ++ b) ((restOf m ++ b).length / 64) := by
  have h := absorbTo_join startL m b (m.length / 64) (by omega) ((restOf m ++ b).length / 64)
  unfold wordsOf
  unfold restOf at h ⊢
  rw [← h]
  congr 1
  rw [List.length_append, List.length_append, List.length_drop]
  omega
theorem restOf_more (m b : List UInt8) : restOf (m ++ b) = (restOf m ++ b).drop (64 * ((restOf m ++ b).length / 64)) := by
  have hl := restOf_len m
  unfold restOf at hl ⊢
  rw [← List.drop_append_of_le_length (l₂ := b) (by omega), List.drop_drop]
  congr 1
  rw [List.length_drop, List.length_append]
  omega
def hashV (ws : List UInt32) (s : Value) (n : Nat) : Array Value := ((ws.map fun x => Value.int .u32 x.toNat) ++ [s, .int .i64 n]).toArray
theorem hashV_size {ws : List UInt32} (h : ws.length = 8) (s : Value) (n : Nat) : (hashV ws s n).size = 10 := by simp [hashV, h]
theorem hashV_word {ws : List UInt32} (h : ws.length = 8) (s : Value) (n : Nat) {i : Nat} (hi : i < 8) : (hashV ws s n)[i]? = (w32 ws)[i]? := by
  simp only [hashV, w32, List.getElem?_toArray]
  rw [List.getElem?_append_left (by simp [h, hi])]
theorem hashV_rest {ws : List UInt32} (h : ws.length = 8) (s : Value) (n : Nat) : (hashV ws s n)[8]? = some s := by
  simp only [hashV, List.getElem?_toArray]
  rw [List.getElem?_append_right (by simp [h])]
  simp [h]
theorem hashV_n {ws : List UInt32} (h : ws.length = 8) (s : Value) (n : Nat) : (hashV ws s n)[9]? = some (.int .i64 n) := by
  simp only [hashV, List.getElem?_toArray]
  rw [List.getElem?_append_right (by simp [h])]
  simp [h]
theorem hashV_set8 {ws : List UInt32} (h : ws.length = 8) (s s' : Value) (n : Nat) : (hashV ws s n).setIfInBounds 8 s' = hashV ws s' n := by
  match ws, h with
  | [a, b, c, d, e, f, g, i], _ => rfl
theorem hashV_set9 {ws : List UInt32} (h : ws.length = 8) (s : Value) (n m : Nat) : (hashV ws s n).setIfInBounds 9 (.int .i64 m) = hashV ws s m := by
  match ws, h with
  | [a, b, c, d, e, f, g, i], _ => rfl
theorem hashV_put {ws ws' : List UInt32} (h : ws.length = 8) (h' : ws'.length = 8) (s : Value) (n : Nat) : putAt (hashV ws s n) 0 (w32 ws').toList = hashV ws' s n := by
  match ws, h, ws', h' with
  | [a, b, c, d, e, f, g, i], _, [a', b', c', d', e', f', g', i'], _ => rfl
theorem BytesIn.shift {W : World} {g o : Nat} {l : List UInt8} (h : BytesIn W (some ⟨g, o, none⟩) l) (k : Nat) : BytesIn W (some ⟨g, o + k, none⟩) (l.drop k) := fun i b hi => by
  rw [List.getElem?_drop] at hi
  obtain ⟨g', o', e, hg, hc⟩ := h (k + i) b hi
  cases e
  exact ⟨g, o + k, rfl, hg, by rw [Nat.add_assoc]; exact hc⟩
section
variable {P : Program}
/-- append onto a slice that is full, of bytes. -/
theorem run_append_full {w : World} (t ty e : TypeId) (i : TypeInfo) (ht : P.underlying t = some (.slice e)) (hi : P.info? e = some i) (hz : i.zero = some (.int .u8 0)) (hsize : i.size = 1) (hby : i.bytes = 1)
    (A : Option Addr) (r : List UInt8) (hr : BytesIn w A r) (B : Option Addr) (c : Nat) (b : List UInt8) (hb : BytesIn w B b) (h63 : r.length + b.length ≤ 140737488355328) :
    ∃ A' c' w', (Builtin.append_ #[t, t] ty #[.slice A r.length r.length, .slice B b.length c]).run P w = .ok (.slice A' (r ++ b).length c') w' ∧
      ∀ W0 L c0, r.length ≤ c0 → c0 ≤ maxLen → St W0 (Vals [.slice A r.length c0] [r] :: L) w → St W0 (Vals [.slice A' (r ++ b).length c'] [r ++ b] :: L) w' := by
  have hl0 : ∀ a : Addr, (loadCells a 0).run P w = .ok #[] w := fun a => run_loadCells_list (P := P) w a [] (fun j v hj => by cases hj)
  match b, hb, h63 with
  | [], _, _ =>
    refine ⟨A, r.length, w, ?_, fun W0 L c0 h1 h2 h => ?_⟩
    · rw [List.append_nil]
      cases A <;> cases B <;> simp [Builtin.append_, run_underlying ht, sizeOf, typeInfo, hi, Builtin.lenOf, Builtin.firstCells, storeCells, hl0]
    · rw [List.append_nil]
      obtain ⟨F, ha, _, hrr⟩ := h.first
      refine hrr _ _ ⟨rfl, fun i q hq => ?_⟩ (Tch.refl _ _)
      obtain ⟨A1, c1, e1, g1, g2, g3⟩ := ha.2 i q hq
      match i with
      | i + 1 => cases hq
      | 0 =>
        obtain rfl : r = q := by simpa using hq
        have e2 : Value.slice A r.length c0 = .slice A1 r.length c1 := Option.some.inj e1
        injection e2 with e3 _ _
        subst e3
        exact ⟨A, r.length, rfl, Nat.le_refl _, Nat.le_trans h1 h2, g3.mono fun _ _ hf => .inl hf⟩
  | b0 :: b, hb, h63 =>
    obtain ⟨gb, ob, rfl, _, _⟩ := hb 0 b0 rfl
    have hnews : ∀ j u, (bvL (b0 :: b))[j]? = some u → w.cell? ((⟨gb, ob, none⟩ : Addr).add j) = some u := by
      intro j u hj
      unfold bvL at hj
      rw [List.getElem?_map] at hj
      cases hq : (b0 :: b)[j]? with
      | none => rw [hq] at hj; cases hj
      | some q =>
        rw [hq] at hj
        obtain rfl : Value.int .u8 q.toNat = u := by simpa using hj
        obtain ⟨g', o', e', _, hc⟩ := hb j q hq
        cases e'
        have e3 : (⟨gb, ob, none⟩ : Addr).add j = ⟨gb, ob + j, none⟩ := by unfold Addr.add; split <;> simp_all
        rw [e3]; exact hc
    have key : ∃ v' w', (Builtin.append_ #[t, t] ty #[.slice A r.length r.length, .slice (some ⟨gb, ob, none⟩) (b0 :: b).length c]).run P w = .ok v' w' ∧ w'.ownsRow w.heap.size e 1 v' (r.length + (b0 :: b).length) (bvL r ++ bvL (b0 :: b)) ∧ w.grownBy w' none := by
      cases A with
      | some a =>
        obtain ⟨ga, oa, sp⟩ := a
        exact run_append_arg_grows (P := P) w t ty e i (.int .u8 0) 1 1 ht hi hz hsize hby rfl (by decide) ⟨ga, oa, sp⟩ r.length r.length (bvL r) (by rw [bvL_len, Nat.mul_one]) (fun j u hj => by
          unfold bvL at hj
          rw [List.getElem?_map] at hj
          cases hq : r[j]? with
          | none => rw [hq] at hj; cases hj
          | some q =>
            rw [hq] at hj
            obtain rfl : Value.int .u8 q.toNat = u := by simpa using hj
            obtain ⟨g', o', e', _, hc⟩ := hr j q hq
            cases e'
            have e3 : (⟨ga, oa, none⟩ : Addr).add j = ⟨ga, oa + j, none⟩ := by unfold Addr.add; split <;> simp_all
            rw [e3]; exact hc) ⟨gb, ob, none⟩ (b0 :: b).length c (bvL (b0 :: b)) (by rw [bvL_len, Nat.mul_one]) hnews (by simp) (by unfold maxLen; omega) (by omega)
      | none =>
        have hr0 : r = [] := by
          cases r with
          | nil => rfl
          | cons q r => obtain ⟨g, o, e, _⟩ := hr 0 q rfl; cases e
        subst hr0
        obtain ⟨v', w', hrun, h2, h3, h4, h5⟩ := run_append_own_at (P := P) w w.heap.size t ty e i (.int .u8 0) 1 1 ht hi hz hsize hby rfl (by decide) (.slice none 0 0) 0 [] (World.ownsRow_nil _ _ _ _) ⟨gb, ob, none⟩ (b0 :: b).length c (bvL (b0 :: b)) (by rw [bvL_len, Nat.mul_one]) hnews (bvL_one _) (by unfold maxLen; omega) (by omega) (Nat.le_refl _)
        exact ⟨v', w', hrun, h2, h3⟩
    obtain ⟨v', w', hrun, hown, hgr⟩ := key
    rcases hown.2 with ⟨_, h0⟩ | ⟨g', cap, cur, rfl, hge, hh, hcap, hmax, hcs, htk⟩
    · simp at h0
    · refine ⟨some ⟨g', 0, none⟩, cap, w', by rw [List.length_append]; exact hrun, fun W0 L c0 h1 h2 h => ?_⟩
      refine h.drop.push ⟨hgr.os, hgr.tape, hgr.output, hgr.size, fun k hk => hgr.block k hk (by simp)⟩ ⟨rfl, fun i q hq => ?_⟩
      match i with
      | i + 1 => cases hq
      | 0 =>
        obtain rfl : r ++ b0 :: b = q := by simpa using hq
        refine ⟨some ⟨g', 0, none⟩, cap, rfl, by rw [List.length_append]; exact hcap, hmax, fun k bb hbb => ⟨g', 0, rfl, hge, heap_lt hh, ?_⟩⟩
        rw [Nat.zero_add, cell_of_row w' g' k _ _ _ hh]
        have hk : k < r.length + (b0 :: b).length := by
          rw [← List.length_append]
          exact (List.getElem?_eq_some_iff.1 hbb).1
        have h3 : (cur.toList.take ((r.length + (b0 :: b).length) * 1))[k]? = some (Value.int .u8 bb.toNat) := by
          rw [htk]
          unfold bvL
          rw [← List.map_append, List.getElem?_map, hbb]
          rfl
        rw [Nat.mul_one, List.getElem?_take_of_lt hk] at h3
        simpa using h3
end
end Go.Cu
