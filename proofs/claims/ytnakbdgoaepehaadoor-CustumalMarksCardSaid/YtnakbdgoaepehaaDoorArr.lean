/- Byte arrays by value: the generic laws (over any program) of loads, indexes, stores and comparisons of arrays of bytes. -/
import Derived.WalkKit
import Derived.WalkSpells
import Derived.WalkLawsBesides
import Derived.BigQuiet
import Derived.Deep.QuietTactic
namespace Go.Cu
open Go Go.RowKit

theorem hid {p : Prop} (h : p) : Hid p := h
theorem heap_alloc_at {w : World} (o : Obj) (n : Nat) (hn : n = w.heap.size) : (w.alloc o).heap[n]? = some o := by subst hn; exact heap_alloc_new w o
theorem heap_alloc_past {w : World} (o : Obj) (n : Nat) (hn : n < w.heap.size) : (w.alloc o).heap[n]? = w.heap[n]? := Below.heap_alloc w o n hn
/-- Outside the blocks of F (and what is new) nothing has turned. -/
structure Tch (F : Nat → Prop) (w w' : World) : Prop where
  os : w'.os = w.os
  tape : w'.tape = w.tape
  output : w'.output = w.output
  size : w.heap.size ≤ w'.heap.size
  block : ∀ k, k < w.heap.size → ¬ F k → w'.heap[k]? = w.heap[k]?
theorem Tch.refl (F : Nat → Prop) (w : World) : Tch F w w := ⟨rfl, rfl, rfl, Nat.le_refl _, fun _ _ _ => rfl⟩
theorem Tch.trans {F G H : Nat → Prop} {a b c : World} (h : Tch F a b) (k : Tch G b c) (hF : ∀ i, F i → H i) (hG : ∀ i, i < a.heap.size → G i → H i) : Tch H a c :=
  ⟨k.os.trans h.os, k.tape.trans h.tape, k.output.trans h.output, Nat.le_trans h.size k.size, fun i hi hn =>
    (k.block i (Nat.lt_of_lt_of_le hi h.size) (fun g => hn (hG i hi g))).trans (h.block i hi (fun f => hn (hF i f)))⟩
theorem Tch.mono {F G : Nat → Prop} {a b : World} (h : Tch F a b) (hF : ∀ i, i < a.heap.size → F i → G i) : Tch G a b :=
  ⟨h.os, h.tape, h.output, h.size, fun i hi hn => h.block i hi (fun f => hn (hF i hi f))⟩
theorem Tch.below {F : Nat → Prop} {a b : World} {B : Nat} (h : Tch F a b) (hB : B ≤ a.heap.size) (hF : ∀ i, F i → B ≤ i) : Below B a b :=
  ⟨h.os, h.tape, h.output, h.size, fun i hi => h.block i (by omega) (fun f => by have := hF i f; omega)⟩
theorem Tch.of_below {F : Nat → Prop} {a b : World} (h : Below a.heap.size a b) : Tch F a b :=
  ⟨h.os, h.tape, h.output, h.size, fun i hi _ => h.block i hi⟩
theorem Tch.setCell {F : Nat → Prop} {a b : World} (h : Tch F a b) {g i : Nat} (hg : F g) (v : Value) : Tch F a (b.setCell ⟨g, i, none⟩ v) :=
  ⟨h.os, h.tape, h.output, by simpa using h.size, fun k hk hn => (Below.heap_setCell b ⟨g, i, none⟩ v k (fun e => hn (by rw [e]; exact hg))).trans (h.block k hk hn)⟩
/-- Bytes as cells. -/
def bv (l : List UInt8) : Array Value := (l.map fun b => Value.int .u8 b.toNat).toArray
/-- A byte as a number. -/
def bt (l : List UInt8) (i : Nat) : Int := ((l.getD i 0).toNat : Int)
theorem bt_ge (l : List UInt8) (i : Nat) : 0 ≤ bt l i := by unfold bt; omega
theorem bt_lt (l : List UInt8) (i : Nat) : bt l i < 256 := by unfold bt; have := (l.getD i 0).toNat_lt; omega
theorem bv_get (l : List UInt8) (i : Nat) (h : i < l.length) : (bv l)[i]? = some (.int .u8 (bt l i)) := by
  simp [bv, bt, h]
theorem bv_size (l : List UInt8) : (bv l).size = l.length := by simp [bv]
theorem bv_toList (l : List UInt8) : (bv l).toList = l.map fun b => Value.int .u8 b.toNat := by simp [bv]
theorem bv_one (l : List UInt8) : ∀ u ∈ (bv l).toList, u.oneCell' = true := by
  intro u hu
  simp only [bv_toList, List.mem_map] at hu
  obtain ⟨b, _, rfl⟩ := hu
  rfl
theorem bv_inj {l m : List UInt8} (h : bv l = bv m) : l = m := by
  have h' := congrArg Array.toList h
  simp only [bv_toList] at h'
  refine (List.map_inj_right ?_).1 h'
  intro a b e
  injection e with _ e
  exact UInt8.toNat_inj.1 (by omega)

/-- The elements' type is of one cell of a byte. -/
structure ByteElem (P : Program) (e : TypeId) : Prop where
  size : (P.info? e).map (·.size) = some 1
  und : P.underlying e = some (.int .u8)

section
variable {P : Program} {t e : TypeId} {n : Nat}

theorem run_sizeOf {s : Nat} (hi : (P.info? e).map (·.size) = some s) (w : World) : (sizeOf e).run P w = .ok s w := by
  cases hq : P.info? e with
  | none => simp [hq] at hi
  | some d =>
    have hs : d.size = s := by simpa [hq] using hi
    simp [sizeOf, typeInfo, hq, hs]

theorem run_isAgg_no (h : P.underlying e = some (.int .u8)) (w : World) : (isAgg e).run P w = .ok false w := by
  simp [isAgg, run_underlying h]

theorem run_isAgg_yes {d : TypeDesc} (h : P.underlying e = some d) (hd : (match d with | .struct _ | .array _ _ => true | _ => false) = true) (w : World) : (isAgg e).run P w = .ok true w := by
  unfold isAgg
  rw [Sem.run_bind, run_underlying h w]
  cases d <;> simp_all

theorem run_part_bv (he : ByteElem P e) (l : List UInt8) (i : Nat) (h : i < l.length) (w : World) : (part e (bv l) i).run P w = .ok (.int .u8 (bt l i)) w := by
  simp [part, run_isAgg_no he.und, bv_get l i h]

theorem run_index_bv (ht : P.underlying t = some (.array n e)) (he : ByteElem P e)
    (l : List UInt8) (hl : l.length = n) (i : Nat) (h : i < n) (w : World) :
    (Instr.index t (.agg (bv l)) (.int .i64 i)).run P w = .ok (.int .u8 (bt l i)) w := by
  have hin : ¬ (n ≤ i) := by omega
  simp [Instr.index, asIntOf, run_underlying ht, hin, run_sizeOf he.size, run_part_bv he l i (hl ▸ h)]

theorem load_cells_of (w : World) (g off : Nat) (t' : TypeId) (cs vs : Array Value) (fr : Nat × Nat) (hg : w.heap[g]? = some (.cells cs t' fr))
    (hv : ∀ j, j < vs.size → cs[off + j]? = vs[j]?) : (loadCells ⟨g, off, none⟩ vs.size).run P w = .ok vs w := by
  have hl : (loadCells ⟨g, off, none⟩ vs.toList.length).run P w = .ok vs.toList.toArray w :=
    run_loadCells_list (P := P) w ⟨g, off, none⟩ vs.toList (fun j v hj => by
      have hadd : (⟨g, off, none⟩ : Addr).add j = ⟨g, off + j, none⟩ := by unfold Addr.add; split <;> simp_all
      have hlt : j < vs.size := by
        rcases Nat.lt_or_ge j vs.size with h | h
        · exact h
        · rw [List.getElem?_eq_none (by simpa using h)] at hj; cases hj
      rw [hadd, cell_of_row w g (off + j) cs t' fr hg, hv j hlt]
      simpa using hj)
  simpa using hl

/-- An aggregate loaded out of a block that is known whole. -/
theorem run_loadVar_part (w : World) (g off : Nat) (t' ty : TypeId) (cs vs : Array Value) (fr : Nat × Nat) {d : TypeDesc} (hg : w.heap[g]? = some (.cells cs t' fr))
    (hu : P.underlying ty = some d) (hd : (match d with | .struct _ | .array _ _ => true | _ => false) = true) (hi : (P.info? ty).map (·.size) = some vs.size)
    (hv : ∀ j, j < vs.size → cs[off + j]? = vs[j]?) :
    (loadVar ty ⟨g, off, none⟩).run P w = .ok (.agg vs) w := by
  simp [loadVar, Sem.run_bind, run_isAgg_yes hu hd, run_sizeOf hi, load_cells_of w g off t' cs vs fr hg hv]

theorem wp_load_part {o : Oper} {a : Act} {w : World} {K : Act → World → Prop} {Q : Exit → Act → World → Prop} (ty : TypeId) (x : Operand) (ho : o.op = .load ty x)
    (g off : Nat) (hx : a.eval x = .pointer (some ⟨g, off, none⟩)) (t' : TypeId) (cs vs : Array Value) (fr : Nat × Nat) (d : TypeDesc) (hu : P.underlying ty = some d)
    (hd : (match d with | .struct _ | .array _ _ => true | _ => false) = true) (hg : w.heap[g]? = some (.cells cs t' fr)) (hi : (P.info? ty).map (·.size) = some vs.size)
    (hv : ∀ j, j < vs.size → cs[off + j]? = vs[j]?)
    (h : K (a.put o.dst (.agg vs)) w) : o.wp P a w K Q := by
  unfold Oper.wp execOp
  simp only [ho, hx, Instr.loadAt, Instr.sureAddr, Sem.run_bind, Sem.run_pure, Result.andThen_ok, run_loadVar_part w g off t' ty cs vs fr hg hu hd hi hv]
  exact h

/-- A load of an aggregate out of a block that is known whole. -/
theorem wpList_load_part {ops : Array Oper} {rest : List Oper} {o : Oper} {a : Act} {w : World} {Q : Exit → Act → World → Prop} (hgd : o.guard = none) (ty : TypeId) (x : Operand) (ho : o.op = .load ty x)
    (g off : Nat) (hx : a.eval x = .pointer (some ⟨g, off, none⟩)) (t' : TypeId) (cs vs : Array Value) (fr : Nat × Nat) (d : TypeDesc) (hu : P.underlying ty = some d)
    (hd : (match d with | .struct _ | .array _ _ => true | _ => false) = true) (hg : w.heap[g]? = some (.cells cs t' fr)) (hi : (P.info? ty).map (·.size) = some vs.size)
    (hv : ∀ j, j < vs.size → cs[off + j]? = vs[j]?)
    (h : wpList P ops Q rest (a.put o.dst (.agg vs)) w) : wpList P ops Q (o :: rest) a w :=
  wpList_plain hgd fun _ hK => wp_load_part ty x ho g off hx t' cs vs fr d hu hd hg hi hv (hK _ _ h)

/-- The same, the whole of it. -/
theorem wpList_load_box {ops : Array Oper} {rest : List Oper} {o : Oper} {a : Act} {w : World} {Q : Exit → Act → World → Prop} (hgd : o.guard = none) (ty : TypeId) (x : Operand) (ho : o.op = .load ty x)
    (g : Nat) (hx : a.eval x = .pointer (some ⟨g, 0, none⟩)) (d : TypeDesc) (hu : P.underlying ty = some d)
    (hd : (match d with | .struct _ | .array _ _ => true | _ => false) = true) (n : Nat) (hi : (P.info? ty).map (·.size) = some n) (t' : TypeId) (cs : Array Value) (fr : Nat × Nat) (hn : cs.size = n) (hg : w.heap[g]? = some (.cells cs t' fr))
    (h : wpList P ops Q rest (a.put o.dst (.agg cs)) w) : wpList P ops Q (o :: rest) a w :=
  wpList_load_part hgd ty x ho g 0 hx t' cs cs fr d hu hd hg (hn ▸ hi) (fun j _ => by simp) h

theorem wpList_wanted {ops : Array Oper} {rest : List Oper} {o : Oper} {a : Act} {w : World} {Q : Exit → Act → World → Prop} (hw : Region.wanted o (yielded ops a.tmps) = true)
    (h : ∀ K : Act → World → Prop, (∀ a w, wpList P ops Q rest a w → K a w) → o.wp P a w K Q) : wpList P ops Q (o :: rest) a w :=
  wpList_step fun K hK => by rw [if_pos hw]; exact h K hK
/-- A load of an aggregate that is known, its guard saying yes. -/
theorem wpList_load_at {ops : Array Oper} {rest : List Oper} {o : Oper} {a : Act} {w : World} {Q : Exit → Act → World → Prop} (ty : TypeId) (x : Operand) (ho : o.op = .load ty x)
    (g : Nat) (hx : a.eval x = .pointer (some ⟨g, 0, none⟩)) (hw : Region.wanted o (yielded ops a.tmps) = true) (d : TypeDesc) (hu : P.underlying ty = some d)
    (hd : (match d with | .struct _ | .array _ _ => true | _ => false) = true) (n : Nat) (hi : (P.info? ty).map (·.size) = some n) (t' : TypeId) (cs : Array Value) (fr : Nat × Nat) (hg : w.heap[g]? = some (.cells cs t' fr)) (hn : cs.size = n)
    (h : wpList P ops Q rest (a.put o.dst (.agg cs)) w) : wpList P ops Q (o :: rest) a w :=
  wpList_wanted hw fun _ hK => wp_load_part ty x ho g 0 hx t' cs cs fr d hu hd hg (hn ▸ hi) (fun j _ => by simp) (hK _ _ h)

/-- Cells written into an array from a place on. -/
def putAt (cs : Array Value) (o : Nat) (vs : List Value) : Array Value := (cs.toList.take o ++ vs ++ cs.toList.drop (o + vs.length)).toArray
theorem putAt_all (cs vs : Array Value) (h : cs.size = vs.size) : putAt cs 0 vs.toList = vs := by
  unfold putAt
  rw [List.take_zero, List.drop_eq_nil_of_le (by simp; omega)]
  simp
theorem putAt_size (cs : Array Value) (o : Nat) (vs : List Value) (h : o + vs.length ≤ cs.size) : (putAt cs o vs).size = cs.size := by
  simp [putAt]; omega

theorem putAt_one (cs : Array Value) (o : Nat) (v : Value) (h : o < cs.size) : putAt cs o [v] = cs.setIfInBounds o v := by
  apply Array.ext_getElem?
  intro j
  unfold putAt
  simp only [List.getElem?_toArray, List.length_singleton, Array.getElem?_setIfInBounds, h, if_true]
  rw [List.append_assoc]
  by_cases h1 : o = j
  · subst h1
    have : (cs.toList.take o).length = o := by simp; omega
    rw [List.getElem?_append_right (by omega)]
    simp [this]
  · rw [if_neg h1]
    rcases Nat.lt_or_ge j o with h2 | h2
    · rw [List.getElem?_append_left (by simp; omega)]
      simp [h2]
    · have : (cs.toList.take o).length = o := by simp; omega
      rw [List.getElem?_append_right (by omega), this, List.getElem?_append_right (by simp; omega)]
      simp
      congr 1
      omega
theorem bv_set (l : List UInt8) (i : Nat) (b : UInt8) : (bv l).setIfInBounds i (.int .u8 (b.toNat : Int)) = bv (l.set i b) := by
  apply Array.ext_getElem?
  intro j
  simp only [bv, Array.getElem?_setIfInBounds, List.getElem?_toArray, List.getElem?_map, List.getElem?_set, List.size_toArray, List.length_map]
  by_cases h : i = j
  · subst h
    by_cases h2 : i < l.length <;> simp [h2]
  · simp [h]

theorem run_storeVar_part (w : World) (g o : Nat) (ty t : TypeId) (n : Nat) (cur : Array Value) (v : Value) (hg : w.heap[g]? = some (.cells cur t (0, 0))) (hi : (P.info? ty).map (·.size) = some n) (hn : v.cells.size = n)
    (hl : o + n ≤ cur.size) (h1 : ∀ u ∈ v.cells.toList, u.oneCell' = true) : (storeVar ty ⟨g, o, none⟩ v).run P w = .ok () (w.setRow g (putAt cur o v.cells.toList)) := by
  have h := run_storeCells_at (P := P) g o t v.cells.toList 0 cur w hg (by simp; omega) h1
  simp only [Nat.add_zero] at h
  simp only [storeVar, Sem.run_bind, run_sizeOf hi, Result.andThen_ok, hn]
  simpa [putAt] using h

/-- A store of a value of n cells into a block that is known whole. -/
theorem wpList_store_part {ops : Array Oper} {rest : List Oper} {o : Oper} {a : Act} {w : World} {Q : Exit → Act → World → Prop} (ty : TypeId) (x y : Operand) (ho : o.op = .store ty x y)
    (g off : Nat) (hx : a.eval x = .pointer (some ⟨g, off, none⟩)) (hw : Region.wanted o (yielded ops a.tmps) = true) (v : Value) (hy : a.eval y = v) (n : Nat) (hi : (P.info? ty).map (·.size) = some n) (hn : v.cells.size = n) (h1 : ∀ u ∈ v.cells.toList, u.oneCell' = true)
    (t : TypeId) (cur : Array Value) (hg : w.heap[g]? = some (.cells cur t (0, 0))) (hl : off + n ≤ cur.size)
    (h : ∀ W : World, W.heap[g]? = some (.cells (putAt cur off v.cells.toList) t (0, 0)) → Tch (· = g) w W → W.heap.size = w.heap.size → wpList P ops Q rest (a.put o.dst undef) W) : wpList P ops Q (o :: rest) a w := by
  refine wpList_wanted hw fun K hK => ?_
  have hrun : (execOp a.eval o).run P w = .ok .skip (w.setRow g (putAt cur off v.cells.toList)) := by
    unfold execOp
    simp only [ho, hx, hy, Instr.storeAt, Instr.sureAddr, Sem.run_bind, Sem.run_pure, Result.andThen_ok, run_storeVar_part w g off ty t n cur v hg hi hn hl h1]
  unfold Oper.wp
  rw [hrun]
  exact hK _ _ (h _ (setRow_heap w g cur _ t _ hg) ⟨rfl, rfl, rfl, by simp, fun k _ hk => setRow_other w g k _ hk⟩ (by simp))

/-- A store of a whole aggregate over a block of its size. -/
theorem wpList_store_box {ops : Array Oper} {rest : List Oper} {o : Oper} {a : Act} {w : World} {Q : Exit → Act → World → Prop} (ty : TypeId) (x y : Operand) (ho : o.op = .store ty x y)
    (g : Nat) (hx : a.eval x = .pointer (some ⟨g, 0, none⟩)) (hw : Region.wanted o (yielded ops a.tmps) = true) (cs : Array Value) (hy : a.eval y = .agg cs) (n : Nat) (hi : (P.info? ty).map (·.size) = some n) (hn : cs.size = n) (h1 : ∀ u ∈ cs.toList, u.oneCell' = true)
    (t : TypeId) (cur : Array Value) (hg : w.heap[g]? = some (.cells cur t (0, 0))) (hl : cur.size = n)
    (h : ∀ W : World, W.heap[g]? = some (.cells cs t (0, 0)) → Tch (· = g) w W → W.heap.size = w.heap.size → wpList P ops Q rest (a.put o.dst undef) W) : wpList P ops Q (o :: rest) a w :=
  wpList_store_part ty x y ho g 0 hx hw (.agg cs) hy n hi hn h1 t cur hg (by omega) (fun W hW hT hs => h W (by
    rw [show (Value.agg cs).cells.toList = cs.toList from rfl, putAt_all cur cs (hl.trans hn.symm)] at hW
    exact hW) hT hs)

/-- A new variable, of the type's zero. -/
theorem wpList_alloc {ops : Array Oper} {rest : List Oper} {o : Oper} {a : Act} {w : World} {Q : Exit → Act → World → Prop} (ty : TypeId) (ho : o.op = .alloc ty) (hw : Region.wanted o (yielded ops a.tmps) = true) (z : Value) (hz : ∀ W, (zeroValue ty).run P W = .ok z W)
    (h : ∀ (g : Nat) (W : World), W.heap[g]? = some (.cells z.cells ty (0, 0)) → g < W.heap.size → w.heap.size ≤ g → Below w.heap.size w W → wpList P ops Q rest (a.put o.dst (.pointer (some ⟨g, 0, none⟩))) W) : wpList P ops Q (o :: rest) a w := by
  refine wpList_wanted hw fun K hK => ?_
  have hrun : (execOp a.eval o).run P w = .ok (.value (.pointer (some ⟨w.heap.size, 0, none⟩))) (w.alloc (.cells z.cells ty)) := by
    unfold execOp
    simp only [ho, Instr.alloc, Sem.run_bind, hz w, Result.andThen_ok]
    rfl
  unfold Oper.wp
  rw [hrun]
  exact hK _ _ (h w.heap.size _ (heap_alloc_at _ _ rfl) (by simp) (Nat.le_refl _) ((Below.refl _ _).alloc (Nat.le_refl _) _))

/-- An operation that yields a value and leaves the world. -/
theorem wpList_val {ops : Array Oper} {rest : List Oper} {o : Oper} {a : Act} {w : World} {Q : Exit → Act → World → Prop} (hw : Region.wanted o (yielded ops a.tmps) = true) (v : Value) (hrun : (execOp a.eval o).run P w = .ok (.value v) w)
    (h : wpList P ops Q rest (a.put o.dst v) w) : wpList P ops Q (o :: rest) a w :=
  wpList_wanted hw fun K hK => by
    unfold Oper.wp
    rw [hrun]
    exact hK _ _ h
/-- An aggregate built. -/
theorem wpList_buildv {ops : Array Oper} {rest : List Oper} {o : Oper} {a : Act} {w : World} {Q : Exit → Act → World → Prop} (ty : TypeId) (ps : Array (Nat × Operand)) (ho : o.op = .build ty ps) (hw : Region.wanted o (yielded ops a.tmps) = true)
    (vs : Array (Nat × Value)) (hvs : (ps.map fun (i, x) => (i, a.eval x)) = vs) (v : Value) (hb : ∀ W, (Instr.build ty vs).run P W = .ok v W)
    (h : wpList P ops Q rest (a.put o.dst v) w) : wpList P ops Q (o :: rest) a w := by
  refine wpList_val hw v ?_ h
  unfold execOp
  simp only [ho, hvs, Sem.run_bind, hb, Result.andThen_ok, Sem.run_pure]

/-- A load of an aggregate, behind a name that the walk does not open. -/
def loadK (t : TypeId) (v : Value) : Sem Next := do pure (.value (← Instr.loadAt t v))
theorem run_loadK {w : World} {g off : Nat} {t' ty : TypeId} {cs vs : Array Value} {fr : Nat × Nat} {d : TypeDesc} (hg : w.heap[g]? = some (.cells cs t' fr))
    (hu : P.underlying ty = some d) (hd : (match d with | .struct _ | .array _ _ => true | _ => false) = true) {n : Nat} (hi : (P.info? ty).map (·.size) = some n) (hn : vs.size = n)
    (hv : ∀ j, j < vs.size → cs[off + j]? = vs[j]?) : (loadK ty (.pointer (some ⟨g, off, none⟩))).run P w = .ok (.value (.agg vs)) w := by
  subst hn
  simp only [loadK, Instr.loadAt, Instr.sureAddr, Sem.run_bind, Sem.run_pure, Result.andThen_ok, run_loadVar_part w g off t' ty cs vs fr hg hu hd hi hv]
theorem run_loadK_box {w : World} {g : Nat} {t' ty : TypeId} {cs : Array Value} {fr : Nat × Nat} {d : TypeDesc} (hg : w.heap[g]? = some (.cells cs t' fr))
    (hu : P.underlying ty = some d) (hd : (match d with | .struct _ | .array _ _ => true | _ => false) = true) {n : Nat} (hi : (P.info? ty).map (·.size) = some n) (hn : cs.size = n) :
    (loadK ty (.pointer (some ⟨g, 0, none⟩))).run P w = .ok (.value (.agg cs)) w := run_loadK hg hu hd hi hn (fun j _ => by simp)
/-- A comparison of aggregates, behind a name that the walk does not open. -/
def cmpK (op : BinOp) (t : TypeId) (x y : Operand) (a b : Value) : Sem Next := do pure (.value (← (do eqGuard op t x y a b; binOp op t a b)))

/-- A value laid into a new block of its own: the world behind it is a variable. -/
theorem wpList_box {ops : Array Oper} {rest : List Oper} {o : Oper} {a : Act} {w : World} {Q : Exit → Act → World → Prop} (hgd : o.guard = none) (ty : TypeId) (x : Operand) (ho : o.op = .box ty x) (v : Value) (hv : a.eval x = v)
    (h : ∀ (g : Nat) (W : World), W.heap[g]? = some (.cells v.cells ty (0, 0)) → g < W.heap.size → w.heap.size ≤ g → Below w.heap.size w W → wpList P ops Q rest (a.put o.dst (.pointer (some ⟨g, 0, none⟩))) W) : wpList P ops Q (o :: rest) a w := by
  subst hv
  refine wpList_plain hgd fun K hK => ?_
  have hrun : (execOp a.eval o).run P w = .ok (.value (.pointer (some ⟨w.heap.size, 0, none⟩))) (w.alloc (.cells (a.eval x).cells ty)) := by
    unfold execOp
    simp only [ho]
    rfl
  unfold Oper.wp
  rw [hrun]
  exact hK _ _ (h w.heap.size _ (heap_alloc_at _ _ rfl) (by simp) (Nat.le_refl _) ((Below.refl _ _).alloc (Nat.le_refl _) _))

section
variable {ops : Array Oper} {C : World → Prop} {Q : Act → Prop} {o : Oper} {a : Act} {rest : List Oper}
theorem wpQuiet_op (hw : Region.wanted o (yielded ops a.tmps) = true) (v : Value) (h : ∀ W, C W → o.quietAt P a C W v) (hK : wpQuiet P ops C Q rest (a.put o.dst v)) : wpQuiet P ops C Q (o :: rest) a := by
  unfold wpQuiet
  rw [if_pos hw]
  exact ⟨v, h, hK⟩

theorem wpQuiet_ex (hw : Region.wanted o (yielded ops a.tmps) = true) (h : ∃ v, (∀ W, C W → o.quietAt P a C W v) ∧ wpQuiet P ops C Q rest (a.put o.dst v)) : wpQuiet P ops C Q (o :: rest) a :=
  let ⟨v, h1, h2⟩ := h
  wpQuiet_op hw v h1 h2
theorem wp_region_class {id : Nat} {Q : Exit → Act → World → Prop} {a : Act} {w : World} {l : List Oper} (C : World → Prop) (hm : P.follows .mixedOrders = true) (hB : Region.lexB .any l.toArray = true) (hC : C w.drew)
    (h : wpQuiet P l.toArray C (fun a' => ∀ w', C w' → Q .normal a' w') l a) : (Code.region id l.toArray true).wp P Q a w :=
  wp_region_quiet (C := C) hm hB hC (by simpa using h)

theorem wpQuiet_load_box (ty : TypeId) (x : Operand) (ho : o.op = .load ty x)
    (g : Nat) (hx : a.eval x = .pointer (some ⟨g, 0, none⟩)) (hw : Region.wanted o (yielded ops a.tmps) = true) (d : TypeDesc) (hu : P.underlying ty = some d)
    (hd : (match d with | .struct _ | .array _ _ => true | _ => false) = true) (n : Nat) (hi : (P.info? ty).map (·.size) = some n) (t' : TypeId) (cs : Array Value) (fr : Nat × Nat) (hg : ∀ w, C w → w.heap[g]? = some (.cells cs t' fr)) (hn : cs.size = n)
    (h : ∀ K : Act → Prop, (∀ a, wpQuiet P ops C Q rest a → K a) → K (a.put o.dst (.agg cs))) : wpQuiet P ops C Q (o :: rest) a :=
  wpQuiet_op hw (.agg cs) (fun W hW => by
    unfold Oper.quietAt execOp
    simp only [ho, hx, Instr.loadAt, Instr.sureAddr, Sem.run_bind, Sem.run_pure, Result.andThen_ok, run_loadVar_part W g 0 t' ty cs cs fr (hg W hW) hu hd (hn ▸ hi) (fun j _ => by simp)]
    exact ⟨rfl, rfl⟩) (h _ fun _ hh => hh)

/-- One operation that yields a value, what follows behind a variable. -/
theorem wpQuiet_exK (hw : Region.wanted o (yielded ops a.tmps) = true) (h : ∀ K : Act → Prop, (∀ a, wpQuiet P ops C Q rest a → K a) → ∃ v, (∀ W, C W → o.quietAt P a C W v) ∧ K (a.put o.dst v)) : wpQuiet P ops C Q (o :: rest) a :=
  wpQuiet_ex hw (h _ fun _ hh => hh)
/-- A call, met by its contract in every world of the class. -/
theorem wpQuiet_callK (f : FuncId) (_ho : ∃ args ts, o.op = .call { callee := .value (.func f), args := args, argTypes := ts }) (hw : Region.wanted o (yielded ops a.tmps) = true) (hx : ∃ vs, (∀ W, (execOp a.eval o).run P W = .ok (.enter f vs) W) ∧ ∃ v, (∀ W, C W → Calls P f vs W fun e W' => e = .returned v ∧ C W') ∧
    ∀ K : Act → Prop, (∀ a, wpQuiet P ops C Q rest a → K a) → K (a.put o.dst v)) : wpQuiet P ops C Q (o :: rest) a :=
  let ⟨_, hrun, v, hc, h⟩ := hx
  wpQuiet_op hw v (fun W hW => by
    unfold Oper.quietAt
    rw [hrun W]
    exact ⟨rfl, hc W hW⟩) (h _ fun _ hh => hh)
/-- An operation whose guard says no. -/
theorem wpQuiet_skipK (hw : Region.wanted o (yielded ops a.tmps) = false) (h : ∀ K : Act → Prop, (∀ a, wpQuiet P ops C Q rest a → K a) → K (a.put o.dst undef)) : wpQuiet P ops C Q (o :: rest) a := by
  unfold wpQuiet
  rw [if_neg (by simp [hw])]
  exact h _ fun _ hh => hh
end
end
end Go.Cu
