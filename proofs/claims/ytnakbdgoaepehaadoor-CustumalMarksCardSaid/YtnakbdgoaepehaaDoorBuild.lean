/- Aggregates and one-element slices built out of values that are variables; append onto an own row, with the place of the new row. -/
import Derived.Test.YtnakbdgoaepehaaDoorChunk
import Derived.Maps.AppendAt
namespace Go.Cu
open Go Go.RowKit

theorem list_put_put (l : List Value) (o : Nat) (v : Value) (vs : List Value) (h : o + (vs.length + 1) ≤ l.length) :
    (l.set o v).take (o + 1) ++ vs ++ (l.set o v).drop (o + 1 + vs.length) = l.take o ++ (v :: vs) ++ l.drop (o + (vs.length + 1)) := by
  have h1 : (l.set o v).take (o + 1) = l.take o ++ [v] := by
    rw [List.take_add_one, List.take_set_of_le (Nat.le_refl o)]
    simp [show o < l.length by omega]
  have h2 : (l.set o v).drop (o + 1 + vs.length) = l.drop (o + (vs.length + 1)) := by
    rw [List.drop_set_of_lt (by omega)]
    congr 1
    omega
  rw [h1, h2]
  simp
theorem fold_put : ∀ (vs : List Value) (k off : Nat) (cs : Array Value), off + k + vs.length ≤ cs.size →
    (vs.zipIdx k).foldl (fun cs (x : Value × Nat) => cs.setIfInBounds (off + x.2) x.1) cs = putAt cs (off + k) vs
  | [], k, off, cs, _ => by simp [putAt]
  | v :: vs, k, off, cs, h => by
    simp only [List.length_cons] at h
    rw [List.zipIdx_cons, List.foldl_cons, fold_put vs (k + 1) off _ (by simp; omega)]
    unfold putAt
    congr 1
    rw [Array.toList_setIfInBounds, List.length_cons, show off + (k + 1) = off + k + 1 by omega]
    exact list_put_put cs.toList (off + k) v vs (by simpa [Nat.add_assoc] using h)
theorem fill_one (place : Nat → Option (Nat × Nat)) (cs : Array Value) (i off size : Nat) (v : Value) (rest : List (Nat × Value)) (hp : place i = some (off, size)) (hs : v.cells.size = size) (ho : off + size ≤ cs.size) :
    Instr.fill place cs ((i, v) :: rest) = Instr.fill place (putAt cs off v.cells.toList) rest := by
  have hf : (v.cells.zipIdx.foldl (fun cs (x : Value × Nat) => cs.setIfInBounds (off + x.2) x.1) cs) = putAt cs off v.cells.toList := by
    rw [← Array.foldl_toList, Array.toList_zipIdx]
    simpa using fold_put v.cells.toList 0 off cs (by simp; omega)
  have hn : ¬ (v.cells.size ≠ size || decide (off + v.cells.size > cs.size)) = true := by
    rw [hs]; simp; omega
  rw [Instr.fill]
  simp only [hp]
  rw [if_neg (by simpa using hn)]
  exact congrArg (fun c => Instr.fill place c rest) hf

section
variable {P : Program} {t e : TypeId}
/-- A struct of two fields, the second an array. -/
theorem run_build2 {f0 f1 : Field} {s0 s1 : Nat} {z : Value} (ht : P.underlying t = some (.struct #[f0, f1])) (hz : ∀ W, (zeroValue t).run P W = .ok z W)
    (i0 : (P.info? f0.type).map (·.size) = some s0) (i1 : (P.info? f1.type).map (·.size) = some s1) (o0 : f0.offset = 0) (o1 : f1.offset = s0) (hsz : z.cells.size = s0 + s1)
    (a b : Value) (ha : a.cells.size = s0) (hb : b.cells.size = s1) (w : World) :
    (Instr.build t #[(0, a), (1, b)]).run P w = .ok (.agg (a.cells ++ b.cells)) w := by
  have hfill : Instr.fill (fun i => #[(f0.offset, s0), (f1.offset, s1)][i]?) z.cells [(0, a), (1, b)] = some (a.cells ++ b.cells) := by
    rw [fill_one _ _ 0 0 s0 a _ (by simp [o0]) ha (by omega), fill_one _ _ 1 s0 s1 b _ (by simp [o1]) hb (by rw [putAt_size _ _ _ (by simp; omega)]; omega)]
    rw [Instr.fill]
    congr 1
    apply Array.ext'
    unfold putAt
    simp only [List.take_zero, List.nil_append, Nat.zero_add, Array.length_toList, Array.toList_append]
    rw [List.take_append_of_le_length (by simp; omega), List.take_of_length_le (by simp; omega), List.drop_of_length_le (by simp; omega), List.append_nil]
  unfold Instr.build
  simp only [Sem.run_bind, hz w, Result.andThen_ok, run_underlying ht]
  have hm : (Array.mapM (fun f : Field => do pure (f.offset, ← sizeOf f.type)) #[f0, f1] : Sem _).run P w = .ok #[(f0.offset, s0), (f1.offset, s1)] w := by
    simp [Sem.run_bind, run_sizeOf i0, run_sizeOf i1]
  simp only [hm, Result.andThen_ok]
  rw [hfill]
  rfl
/-- A new slice of one element. -/
theorem run_buildSlice1 {z : Value} {s : Nat} (ht : P.underlying t = some (.slice e)) (hz : ∀ W, (zeroValue e).run P W = .ok z W) (hi : (P.info? e).map (·.size) = some s) (h0 : 0 < s) (h24 : s ≤ 2 ^ 24)
    (a : Value) (ha : a.cells.size = s) (w : World) :
    (Instr.buildSlice t 1 #[(0, a)]).run P w = .ok (.slice (some ⟨w.heap.size, 0, none⟩) 1 1) (w.alloc (.cells a.cells e)) := by
  have hfill : ∀ c : Array Value, c.size = s → Instr.fill (fun i => some (i * s, s)) c [(0, a)] = some a.cells := by
    intro c hc
    rw [fill_one _ _ 0 0 s a _ (by simp) ha (by omega), Instr.fill]
    rw [putAt_all _ _ (hc.trans ha.symm)]
  unfold Instr.buildSlice
  have h1 : ¬ (1 * s > 2 ^ 24) := by omega
  have h2 : ¬ (1 * s = 0) := by omega
  simp only [Sem.run_bind, run_underlying ht, Result.andThen_ok, run_sizeOf hi]
  rw [if_neg h1, if_neg h2]
  simp only [Sem.run_bind, hz, Result.andThen_ok, Sem.run_pure]
  rw [hfill _ (by simp)]
  rfl

/-- Behind names that the walk does not open. -/
def buildK (t : TypeId) (vs : Array (Nat × Value)) : Sem Next := do pure (.value (← Instr.build t vs))
def buildSliceK (t : TypeId) (n : Nat) (vs : Array (Nat × Value)) : Sem Next := do pure (.value (← Instr.buildSlice t n vs))
theorem run_buildK {w : World} {vs : Array (Nat × Value)} {v : Value} (h : (Instr.build t vs).run P w = .ok v w) : (buildK t vs).run P w = .ok (.value v) w := by
  simp only [buildK, Sem.run_bind, h, Result.andThen_ok, Sem.run_pure]
theorem run_buildSliceK {w w' : World} {n : Nat} {vs : Array (Nat × Value)} {v : Value} (h : (Instr.buildSlice t n vs).run P w = .ok v w') : (buildSliceK t n vs).run P w = .ok (.value v) w' := by
  simp only [buildSliceK, Sem.run_bind, h, Result.andThen_ok, Sem.run_pure]

/-- A new slice of one element: its place is a variable. -/
theorem wpList_buildSlice1 {ops : Array Oper} {rest : List Oper} {o : Oper} {a : Act} {w : World} {Q : Exit → Act → World → Prop} (ps : Array (Nat × Operand)) (ho : o.op = .buildSlice t 1 ps) (x : Value) (hvs : (ps.map fun (i, y) => (i, a.eval y)) = #[(0, x)])
    (hw : Region.wanted o (yielded ops a.tmps) = true) {z : Value} {s : Nat} (ht : P.underlying t = some (.slice e)) (hz : ∀ W, (zeroValue e).run P W = .ok z W) (hi : (P.info? e).map (·.size) = some s) (h0 : 0 < s) (h24 : s ≤ 2 ^ 24) (hx : x.cells.size = s)
    (h : ∀ (g : Nat) (W : World), W.heap[g]? = some (.cells x.cells e (0, 0)) → g < W.heap.size → w.heap.size ≤ g → Below w.heap.size w W → wpList P ops Q rest (a.put o.dst (.slice (some ⟨g, 0, none⟩) 1 1)) W) : wpList P ops Q (o :: rest) a w := by
  refine wpList_wanted hw fun K hK => ?_
  have hrun : (execOp a.eval o).run P w = .ok (.value (.slice (some ⟨w.heap.size, 0, none⟩) 1 1)) (w.alloc (.cells x.cells e)) := by
    unfold execOp
    simp only [ho, hvs, Sem.run_bind, run_buildSlice1 ht hz hi h0 h24 x hx w, Result.andThen_ok, Sem.run_pure]
  unfold Oper.wp
  rw [hrun]
  exact hK _ _ (h w.heap.size _ (heap_alloc_at _ _ rfl) (by simp) (Nat.le_refl _) ((Below.refl _ _).alloc (Nat.le_refl _) _))

/-- append onto an own row: where the new row lies. -/
theorem wpList_append_at {ops : Array Oper} {rest : List Oper} {o : Oper} {a : Act} {w : World} {Q : Exit → Act → World → Prop} (s x : Operand) (t : TypeId)
    (ho : o.op = .call { callee := .builtin .append, args := #[s, x], argTypes := #[t, t] }) (v : Value) (hs : a.eval s = v) (ad : Addr) (m c : Nat) (hx : a.eval x = .slice (some ad) m c) (hw : Region.wanted o (yielded ops a.tmps) = true)
    (e : TypeId) (i : TypeInfo) (z : Value) (size bytes : Nat) (ht : P.underlying t = some (.slice e)) (hi : P.info? e = some i) (hz : i.zero = some z)
    (hsize : i.size = size) (hby : i.bytes = bytes) (hzs : z.cells.size = size) (hsz : 0 < size)
    (n : Nat) (xs : List Value) (hown : w.ownsRow 0 e size v n xs)
    (news : List Value) (hl : news.length = m * size) (hnews : ∀ j u, news[j]? = some u → w.cell? (ad.add j) = some u) (h1 : ∀ u ∈ news, u.oneCell' = true)
    (h63 : n + m ≤ maxLen) (hbytes : (n + m) * bytes ≤ 140737488355328)
    (h : ∀ v' w', w'.ownsRow 0 e size v' (n + m) (xs ++ news) → Tch (fun g => v.ownBlock = some g) w w' → (v'.ownBlock = v.ownBlock ∨ v'.ownBlock = some w.heap.size) → wpList P ops Q rest (a.put o.dst v') w') : wpList P ops Q (o :: rest) a w := by
  refine wpList_wanted hw fun K hK => ?_
  obtain ⟨v', w', hrun, h2, h3, _, h5⟩ := run_append_own_at (P := P) w 0 t o.type e i z size bytes ht hi hz hsize hby hzs hsz v n xs hown ad m c news hl hnews h1 h63 hbytes (Nat.zero_le _)
  unfold Oper.wp execOp
  simp only [ho, resolve, invoke, builtin, Sem.run_bind, Sem.run_pure, Result.andThen_ok, List.map_toArray, List.map_cons, List.map_nil, hs, hx, hrun]
  exact hK _ _ (h v' w' h2 ⟨h3.os, h3.tape, h3.output, h3.size, fun k hk hne => h3.block k hk (fun e => hne e.symm)⟩ h5)
end
end Go.Cu
