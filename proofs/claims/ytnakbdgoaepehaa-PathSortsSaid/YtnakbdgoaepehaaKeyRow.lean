/- Rows of keys. -/
import Derived.Test.YtnakbdgoaepehaaPath
import Derived.Test.YtnakbdgoaepehaaKeySort
import Derived.Test.YtnakbdgoaepehaaRefDoc
import Derived.Test.YtnakbdgoaepehaaChunk
namespace Go.Cu
open Go Go.RowKit
abbrev keysL (ks : Ks) : List Value := ks.flatMap bvL
theorem All32.len {ks : Ks} (h : All32 ks) : ∀ x ∈ ks, (bvL x).length = 32 := fun x hx => (bvL_len x).trans (h x hx)
theorem keysL_len {ks : Ks} (h : All32 ks) : (keysL ks).length = ks.length * 32 := fm_len ks h.len
theorem keysL_snoc (ks : Ks) (k : List UInt8) : keysL (ks ++ [k]) = keysL ks ++ bvL k := by unfold keysL; rw [List.flatMap_append]; simp
theorem keysL_take {ks : Ks} (h : All32 ks) (n : Nat) (hn : n ≤ ks.length) : (keysL ks).take (n * 32) = keysL (ks.take n) := by
  have e : keysL ks = keysL (ks.take n) ++ keysL (ks.drop n) := by unfold keysL; rw [← List.flatMap_append, List.take_append_drop]
  have hl : (keysL (ks.take n)).length = n * 32 := by rw [keysL_len (fun x hx => h x (List.mem_of_mem_take hx)), List.length_take, Nat.min_eq_left hn]
  rw [e, ← hl, List.take_left]
theorem All32.snoc {ks : Ks} {k : List UInt8} (h : All32 ks) (hk : k.length = 32) : All32 (ks ++ [k]) := fun x hx => by
  rcases List.mem_append.1 hx with h1 | h1
  · exact h x h1
  · rw [List.mem_singleton.1 h1]; exact hk
theorem All32.set {ks : Ks} {k : List UInt8} {i : Nat} (h : All32 ks) (hk : k.length = 32) : All32 (ks.set i k) := fun x hx => by
  rcases List.mem_or_eq_of_mem_set hx with h1 | h1
  · exact h x h1
  · rw [h1]; exact hk
theorem All32.take {ks : Ks} (h : All32 ks) (n : Nat) : All32 (ks.take n) := fun x hx => h x (List.mem_of_mem_take hx)
theorem keysL_one (ks : Ks) : ∀ u ∈ keysL ks, u.oneCell' = true := by
  intro u hu
  obtain ⟨x, _, hx⟩ := List.mem_flatMap.1 hu
  exact bvL_one x u hx
section
variable {P : Program} {W0 W : World} {L : List Atm} {A : Option Addr} {e n c t : Nat} {ks : Ks}
theorem krow_block (h : St W0 (Row (.slice A n c) e 32 n (keysL ks) :: L) W) (h0 : n ≠ 0) : ∃ g cur, A = some ⟨g, 0, none⟩ ∧ W.heap[g]? = some (.cells cur e (0, 0)) ∧ n ≤ c ∧ c ≤ maxLen ∧ cur.size = c * 32 ∧ cur.toList.take (n * 32) = keysL ks := by
  rcases h.row.2 with ⟨_, h1⟩ | ⟨g, cap, cur, hv, _, hb, h1, h2, h3, h4⟩
  · exact absurd h1 h0
  · cases hv
    exact ⟨g, cur, rfl, hb, h1, h2, h3, h4⟩
/-- A key loaded out of a row. -/
theorem krow_load (h : St W0 (Row (.slice A n c) e 32 n (keysL ks) :: L) W) (ha : All32 ks) (hl : ks.length = n) {i : Nat} {k : List UInt8} (hi : ks[i]? = some k) {d : TypeDesc}
    (hu : P.underlying t = some d) (hd : (match d with | .struct _ | .array _ _ => true | _ => false) = true) (hs : (P.info? t).map (·.size) = some 32) :
    ∃ g, A = some ⟨g, 0, none⟩ ∧ ∀ o, o = i * 32 → (loadK t (.pointer (some ⟨g, o, none⟩))).run P W = .ok (.value (.agg (bv k))) W := by
  have hin : i < ks.length := (List.getElem?_eq_some_iff.1 hi).1
  obtain ⟨g, cur, rfl, hb, h1, _, h3, h4⟩ := krow_block h (by omega)
  have hk : k.length = 32 := ha k (List.mem_of_getElem? hi)
  refine ⟨g, rfl, fun o ho => ?_⟩
  subst ho
  refine run_loadK hb hu hd hs ((bv_size k).trans hk) fun j hj => ?_
  rw [bv_size, hk] at hj
  have h5 := fm_get ks i j k ha.len hi hj
  have h6 : (cur.toList.take (n * 32))[i * 32 + j]? = (bvL k)[j]? := by rw [h4]; exact h5
  rw [List.getElem?_take_of_lt (by omega)] at h6
  rw [← Array.getElem?_toList, h6, bv_eq, List.getElem?_toArray]
theorem take_put {A B : List Value} {N o l : Nat} (hl : B.length = l) (hN : o + l ≤ N) (hA : N ≤ A.length) : (A.take o ++ B ++ A.drop (o + l)).take N = (A.take N).take o ++ B ++ (A.take N).drop (o + l) := by
  have e1 : (A.take N).take o = A.take o := by rw [List.take_take, Nat.min_eq_left (by omega)]
  have e2 : (A.take o ++ B).length = o + l := by rw [List.length_append, List.length_take, hl]; omega
  rw [e1, List.take_append, List.take_of_length_le (by omega : (A.take o ++ B).length ≤ N), e2, List.drop_take]
/-- A key stored into a row. -/
theorem wpList_kstore {ops : Array Oper} {rest : List Oper} {op : Oper} {a : Act} {Q : Exit → Act → World → Prop} (x y : Operand) (ho : op.op = .store t x y) {g : Nat} (h : St W0 (Row (.slice (some ⟨g, 0, none⟩) n c) e 32 n (keysL ks) :: L) W) (ha : All32 ks) (hl : ks.length = n)
    {i : Nat} (hin : i < n) {o : Nat} (hoi : o = i * 32) (hx : a.eval x = .pointer (some ⟨g, o, none⟩)) (hw : Region.wanted op (yielded ops a.tmps) = true) {k : List UInt8} (hk : k.length = 32) (hy : a.eval y = .agg (bv k)) (hs : (P.info? t).map (·.size) = some 32)
    (hK : ∀ W', St W0 (Row (.slice (some ⟨g, 0, none⟩) n c) e 32 n (keysL (ks.set i k)) :: L) W' → wpList P ops Q rest (a.put op.dst undef) W') : wpList P ops Q (op :: rest) a W := by
  subst hoi
  obtain ⟨g', cur, hg, hb, h1, h2, h3, h4⟩ := krow_block h (by omega)
  cases hg
  have hcl : (bvL k).length = 32 := (bvL_len k).trans hk
  refine wpList_store_part t x y ho g (i * 32) hx hw (.agg (bv k)) hy 32 hs ((bv_size k).trans hk) (bv_one k) e cur hb (by omega) fun W' hW hT _ => hK W' ?_
  have hsz : (putAt cur (i * 32) (bvL k)).size = cur.size := putAt_size _ _ _ (by rw [hcl]; omega)
  refine h.grow ⟨by rw [keysL_len (ha.set hk), List.length_set, hl], .inr ⟨g, c, putAt cur (i * 32) (bvL k), rfl, Nat.zero_le _, hW, h1, h2, by rw [hsz, h3], ?_⟩⟩ (hT.mono fun _ _ e => by subst e; rfl) (.inl rfl)
  have h5 := fm_put ks i k ha.len (by omega)
  unfold putAt
  rw [hcl, List.toList_toArray, take_put hcl (by omega) (by rw [Array.length_toList]; omega), h4]
  exact h5
theorem run_clear_row {w : World} {e' ty : Nat} {z : Value} (ht : P.underlying t = some (.slice e')) (hz : ∀ w, (zeroValue e').run P w = .ok z w) (h1 : ∀ u ∈ z.cells.toList, u.oneCell' = true) (hz0 : 0 < z.cells.size) {g o m c' : Nat} {cur : Array Value} {te : Nat}
    (hb : w.heap[g]? = some (.cells cur te (0, 0))) (hl : o + m * z.cells.size ≤ cur.size) (hm : m ≠ 0) :
    ∃ zs : List Value, zs.length = m * z.cells.size ∧ (Builtin.clear_ #[t] ty #[.slice (some ⟨g, o, none⟩) m c']).run P w = .ok (.tuple #[]) (w.setRow g (putAt cur o zs)) := by
  have hsz : (Builtin.zeroCells z.cells m).toList.length = m * z.cells.size := by simp [Builtin.zeroCells]
  have hst := run_storeCells_at (P := P) g o te (Builtin.zeroCells z.cells m).toList 0 cur w hb (by rw [hsz]; omega) (fun v hv => by
    simp only [Builtin.zeroCells, Array.toList_map, List.mem_map] at hv
    obtain ⟨i, _, rfl⟩ := hv
    have hi : i % z.cells.size < z.cells.size := Nat.mod_lt _ hz0
    rw [getElem!_pos z.cells _ hi]
    exact h1 _ (by simp))
  simp only [Nat.add_zero] at hst
  refine ⟨_, hsz, ?_⟩
  obtain ⟨q, rfl⟩ : ∃ q, m = q + 1 := ⟨m - 1, by omega⟩
  simp [Builtin.clear_, run_underlying ht, hz, hst, putAt]
/-- The end of a row cleared, and cut off. -/
theorem wpList_kclear {ops : Array Oper} {rest : List Oper} {op : Oper} {a : Act} {Q : Exit → Act → World → Prop} (x : Operand) (ho : op.op = .call { callee := .builtin .clear, args := #[x], argTypes := #[t] }) {g : Nat} (h : St W0 (Row (.slice (some ⟨g, 0, none⟩) n c) e 32 n (keysL ks) :: L) W) (ha : All32 ks) (hl : ks.length = n)
    {i : Nat} (hin : i ≤ n) (h0 : n ≠ 0) {o m c' : Nat} (hoi : o = i * 32) (hmi : m = n - i) (hx : a.eval x = .slice (some ⟨g, o, none⟩) m c') (hw : Region.wanted op (yielded ops a.tmps) = true) {e' : Nat} {z : Value} (ht : P.underlying t = some (.slice e')) (hz : ∀ w, (zeroValue e').run P w = .ok z w) (h1 : ∀ u ∈ z.cells.toList, u.oneCell' = true) (hz0 : z.cells.size = 32)
    (hK : ∀ W', St W0 (Row (.slice (some ⟨g, 0, none⟩) i c) e 32 i (keysL (ks.take i)) :: L) W' → wpList P ops Q rest (a.put op.dst (.tuple #[])) W') : wpList P ops Q (op :: rest) a W := by
  subst hoi hmi
  refine wpList_wanted hw fun K hK' => ?_
  by_cases hm : n - i = 0
  · have hrun : (Builtin.clear_ #[t] op.type #[.slice (some ⟨g, i * 32, none⟩) (n - i) c']).run P W = .ok (.tuple #[]) W := by
      rw [hm]
      simp [Builtin.clear_, run_underlying ht]
    have hin' : i = n := by omega
    unfold Oper.wp execOp
    simp only [ho, resolve, invoke, builtin, Sem.run_bind, Sem.run_pure, Result.andThen_ok, List.map_toArray, List.map_cons, List.map_nil, hx, hrun]
    refine hK' _ _ (hK W ?_)
    rw [hin', List.take_of_length_le (by omega)]
    exact h
  · obtain ⟨g', cur, hg, hb, hc1, hc2, hc3, hc4⟩ := krow_block h h0
    cases hg
    obtain ⟨zs, hzl, hrun⟩ := run_clear_row (P := P) (ty := op.type) (c' := c') ht hz h1 (by omega) hb (o := i * 32) (m := n - i) (by rw [hz0]; omega) hm
    rw [hz0] at hzl
    unfold Oper.wp execOp
    simp only [ho, resolve, invoke, builtin, Sem.run_bind, Sem.run_pure, Result.andThen_ok, List.map_toArray, List.map_cons, List.map_nil, hx, hrun]
    refine hK' _ _ (hK _ ?_)
    have hcut := h.rowCut hin h0
    rw [keysL_take ha i (by omega)] at hcut
    have hT : Tch (· = g) W (W.setRow g (putAt cur (i * 32) zs)) := ⟨rfl, rfl, rfl, by simp, fun k _ hk => setRow_other W g k _ hk⟩
    refine hcut.grow ⟨by rw [keysL_len (ha.take i), List.length_take]; congr 1; omega, .inr ⟨g, c, putAt cur (i * 32) zs, rfl, Nat.zero_le _, setRow_heap W g cur _ e _ hb, by omega, hc2, by rw [putAt_size _ _ _ (by rw [hzl]; omega), hc3], ?_⟩⟩ (hT.mono fun _ _ e => by subst e; rfl) (.inl rfl)
    unfold putAt
    rw [List.toList_toArray, List.append_assoc, List.take_append_of_le_length (by rw [List.length_take, Array.length_toList]; omega), List.take_take, Nat.min_self, ← keysL_take ha i (by omega), ← hc4, List.take_take, Nat.min_eq_left (by omega)]
end
end Go.Cu
