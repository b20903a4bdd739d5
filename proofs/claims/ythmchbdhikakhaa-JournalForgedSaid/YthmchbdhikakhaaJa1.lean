/- Part 1 of the texts below this law, put together: what each holds is said at its head. -/
import Derived.WalkKit
import Derived.WalkSpells
import Derived.WalkLawsBesides
import Derived.BigQuiet
import Derived.Deep.QuietTactic
import Derived.Maps.AppendAt
import Derived.ProofKit
import Derived.OpenShut
import Derived.Deep.Slices
import Derived.StillTail
import Derived.Test.YthmchbdhikakhaaProg
import Derived.Lib.BytesEntry
import Derived.Lib.Bytealg
import Derived.Lib.BitFns
import Derived.ChangeKeysEq
import Derived.OrdersHeld
/- Byte arrays by value: the generic laws (over any program) of loads, indexes, stores and comparisons of arrays of bytes. -/
namespace Go.Cu
open Go Go.RowKit

theorem hid {p : Prop} (h : p) : Hid p := h
theorem heap_alloc_at {w : World} (o : Obj) (n : Nat) (hn : n = w.heap.size) : (w.alloc o).heap[n]? = some o := by subst hn; exact heap_alloc_new w o
theorem heap_alloc_past {w : World} (o : Obj) (n : Nat) (hn : n < w.heap.size) : (w.alloc o).heap[n]? = w.heap[n]? := Below.heap_alloc w o n hn
/-- Outside the blocks of F (and what is new) nothing has turned. -/
structure Tch (F : Nat → Prop) (w w' : World) : Prop where
  os : w'.os = w.os
  tape : w'.tape = w.tape
  output : w'.output = w.output
  size : w.heap.size ≤ w'.heap.size
  block : ∀ k, k < w.heap.size → ¬ F k → w'.heap[k]? = w.heap[k]?
theorem Tch.refl (F : Nat → Prop) (w : World) : Tch F w w := ⟨rfl, rfl, rfl, Nat.le_refl _, fun _ _ _ => rfl⟩
theorem Tch.trans {F G H : Nat → Prop} {a b c : World} (h : Tch F a b) (k : Tch G b c) (hF : ∀ i, F i → H i) (hG : ∀ i, i < a.heap.size → G i → H i) : Tch H a c :=
  ⟨k.os.trans h.os, k.tape.trans h.tape, k.output.trans h.output, Nat.le_trans h.size k.size, fun i hi hn =>
    (k.block i (Nat.lt_of_lt_of_le hi h.size) (fun g => hn (hG i hi g))).trans (h.block i hi (fun f => hn (hF i f)))⟩
theorem Tch.mono {F G : Nat → Prop} {a b : World} (h : Tch F a b) (hF : ∀ i, i < a.heap.size → F i → G i) : Tch G a b :=
  ⟨h.os, h.tape, h.output, h.size, fun i hi hn => h.block i hi (fun f => hn (hF i hi f))⟩
theorem Tch.below {F : Nat → Prop} {a b : World} {B : Nat} (h : Tch F a b) (hB : B ≤ a.heap.size) (hF : ∀ i, F i → B ≤ i) : Below B a b :=
  ⟨h.os, h.tape, h.output, h.size, fun i hi => h.block i (by omega) (fun f => by have := hF i f; omega)⟩
theorem Tch.of_below {F : Nat → Prop} {a b : World} (h : Below a.heap.size a b) : Tch F a b :=
  ⟨h.os, h.tape, h.output, h.size, fun i hi _ => h.block i hi⟩
theorem Tch.setCell {F : Nat → Prop} {a b : World} (h : Tch F a b) {g i : Nat} (hg : F g) (v : Value) : Tch F a (b.setCell ⟨g, i, none⟩ v) :=
  ⟨h.os, h.tape, h.output, by simpa using h.size, fun k hk hn => (Below.heap_setCell b ⟨g, i, none⟩ v k (fun e => hn (by rw [e]; exact hg))).trans (h.block k hk hn)⟩
/-- Bytes as cells. -/
def bv (l : List UInt8) : Array Value := (l.map fun b => Value.int .u8 b.toNat).toArray
/-- A byte as a number. -/
def bt (l : List UInt8) (i : Nat) : Int := ((l.getD i 0).toNat : Int)
theorem bt_ge (l : List UInt8) (i : Nat) : 0 ≤ bt l i := by unfold bt; omega
theorem bt_lt (l : List UInt8) (i : Nat) : bt l i < 256 := by unfold bt; have := (l.getD i 0).toNat_lt; omega
theorem bv_get (l : List UInt8) (i : Nat) (h : i < l.length) : (bv l)[i]? = some (.int .u8 (bt l i)) := by
  simp [bv, bt, h]
theorem bv_size (l : List UInt8) : (bv l).size = l.length := by simp [bv]
theorem bv_toList (l : List UInt8) : (bv l).toList = l.map fun b => Value.int .u8 b.toNat := by simp [bv]
theorem bv_one (l : List UInt8) : ∀ u ∈ (bv l).toList, u.oneCell' = true := by
  intro u hu
  simp only [bv_toList, List.mem_map] at hu
  obtain ⟨b, _, rfl⟩ := hu
  rfl
theorem bv_inj {l m : List UInt8} (h : bv l = bv m) : l = m := by
  have h' := congrArg Array.toList h
  simp only [bv_toList] at h'
  refine (List.map_inj_right ?_).1 h'
  intro a b e
  injection e with _ e
  exact UInt8.toNat_inj.1 (by omega)

/-- The elements' type is of one cell of a byte. -/
structure ByteElem (P : Program) (e : TypeId) : Prop where
  size : (P.info? e).map (·.size) = some 1
  und : P.underlying e = some (.int .u8)

section
variable {P : Program} {t e : TypeId} {n : Nat}

theorem run_sizeOf {s : Nat} (hi : (P.info? e).map (·.size) = some s) (w : World) : (sizeOf e).run P w = .ok s w := by
  cases hq : P.info? e with
  | none => simp [hq] at hi
  | some d =>
    have hs : d.size = s := by simpa [hq] using hi
    simp [sizeOf, typeInfo, hq, hs]

theorem run_isAgg_no (h : P.underlying e = some (.int .u8)) (w : World) : (isAgg e).run P w = .ok false w := by
  simp [isAgg, run_underlying h]

theorem run_isAgg_yes {d : TypeDesc} (h : P.underlying e = some d) (hd : (match d with | .struct _ | .array _ _ => true | _ => false) = true) (w : World) : (isAgg e).run P w = .ok true w := by
  unfold isAgg
  rw [Sem.run_bind, run_underlying h w]
  cases d <;> simp_all

theorem run_part_bv (he : ByteElem P e) (l : List UInt8) (i : Nat) (h : i < l.length) (w : World) : (part e (bv l) i).run P w = .ok (.int .u8 (bt l i)) w := by
  simp [part, run_isAgg_no he.und, bv_get l i h]

theorem run_index_bv (ht : P.underlying t = some (.array n e)) (he : ByteElem P e)
    (l : List UInt8) (hl : l.length = n) (i : Nat) (h : i < n) (w : World) :
    (Instr.index t (.agg (bv l)) (.int .i64 i)).run P w = .ok (.int .u8 (bt l i)) w := by
  have hin : ¬ (n ≤ i) := by omega
  simp [Instr.index, asIntOf, run_underlying ht, hin, run_sizeOf he.size, run_part_bv he l i (hl ▸ h)]

theorem load_cells_of (w : World) (g off : Nat) (t' : TypeId) (cs vs : Array Value) (fr : Nat × Nat) (hg : w.heap[g]? = some (.cells cs t' fr))
    (hv : ∀ j, j < vs.size → cs[off + j]? = vs[j]?) : (loadCells ⟨g, off, none⟩ vs.size).run P w = .ok vs w := by
  have hl : (loadCells ⟨g, off, none⟩ vs.toList.length).run P w = .ok vs.toList.toArray w :=
    run_loadCells_list (P := P) w ⟨g, off, none⟩ vs.toList (fun j v hj => by
      have hadd : (⟨g, off, none⟩ : Addr).add j = ⟨g, off + j, none⟩ := by unfold Addr.add; split <;> simp_all
      have hlt : j < vs.size := by
        rcases Nat.lt_or_ge j vs.size with h | h
        · exact h
        · rw [List.getElem?_eq_none (by simpa using h)] at hj; cases hj
      rw [hadd, cell_of_row w g (off + j) cs t' fr hg, hv j hlt]
      simpa using hj)
  simpa using hl

/-- An aggregate loaded out of a block that is known whole. -/
theorem run_loadVar_part (w : World) (g off : Nat) (t' ty : TypeId) (cs vs : Array Value) (fr : Nat × Nat) {d : TypeDesc} (hg : w.heap[g]? = some (.cells cs t' fr))
    (hu : P.underlying ty = some d) (hd : (match d with | .struct _ | .array _ _ => true | _ => false) = true) (hi : (P.info? ty).map (·.size) = some vs.size)
    (hv : ∀ j, j < vs.size → cs[off + j]? = vs[j]?) :
    (loadVar ty ⟨g, off, none⟩).run P w = .ok (.agg vs) w := by
  simp [loadVar, Sem.run_bind, run_isAgg_yes hu hd, run_sizeOf hi, load_cells_of w g off t' cs vs fr hg hv]

theorem wp_load_part {o : Oper} {a : Act} {w : World} {K : Act → World → Prop} {Q : Exit → Act → World → Prop} (ty : TypeId) (x : Operand) (ho : o.op = .load ty x)
    (g off : Nat) (hx : a.eval x = .pointer (some ⟨g, off, none⟩)) (t' : TypeId) (cs vs : Array Value) (fr : Nat × Nat) (d : TypeDesc) (hu : P.underlying ty = some d)
    (hd : (match d with | .struct _ | .array _ _ => true | _ => false) = true) (hg : w.heap[g]? = some (.cells cs t' fr)) (hi : (P.info? ty).map (·.size) = some vs.size)
    (hv : ∀ j, j < vs.size → cs[off + j]? = vs[j]?)
    (h : K (a.put o.dst (.agg vs)) w) : o.wp P a w K Q := by
  unfold Oper.wp execOp
  simp only [ho, hx, Instr.loadAt, Instr.sureAddr, Sem.run_bind, Sem.run_pure, Result.andThen_ok, run_loadVar_part w g off t' ty cs vs fr hg hu hd hi hv]
  exact h

/-- A load of an aggregate out of a block that is known whole. -/
theorem wpList_load_part {ops : Array Oper} {rest : List Oper} {o : Oper} {a : Act} {w : World} {Q : Exit → Act → World → Prop} (hgd : o.guard = none) (ty : TypeId) (x : Operand) (ho : o.op = .load ty x)
    (g off : Nat) (hx : a.eval x = .pointer (some ⟨g, off, none⟩)) (t' : TypeId) (cs vs : Array Value) (fr : Nat × Nat) (d : TypeDesc) (hu : P.underlying ty = some d)
    (hd : (match d with | .struct _ | .array _ _ => true | _ => false) = true) (hg : w.heap[g]? = some (.cells cs t' fr)) (hi : (P.info? ty).map (·.size) = some vs.size)
    (hv : ∀ j, j < vs.size → cs[off + j]? = vs[j]?)
    (h : wpList P ops Q rest (a.put o.dst (.agg vs)) w) : wpList P ops Q (o :: rest) a w :=
  wpList_plain hgd fun _ hK => wp_load_part ty x ho g off hx t' cs vs fr d hu hd hg hi hv (hK _ _ h)

/-- The same, the whole of it. -/
theorem wpList_load_box {ops : Array Oper} {rest : List Oper} {o : Oper} {a : Act} {w : World} {Q : Exit → Act → World → Prop} (hgd : o.guard = none) (ty : TypeId) (x : Operand) (ho : o.op = .load ty x)
    (g : Nat) (hx : a.eval x = .pointer (some ⟨g, 0, none⟩)) (d : TypeDesc) (hu : P.underlying ty = some d)
    (hd : (match d with | .struct _ | .array _ _ => true | _ => false) = true) (n : Nat) (hi : (P.info? ty).map (·.size) = some n) (t' : TypeId) (cs : Array Value) (fr : Nat × Nat) (hn : cs.size = n) (hg : w.heap[g]? = some (.cells cs t' fr))
    (h : wpList P ops Q rest (a.put o.dst (.agg cs)) w) : wpList P ops Q (o :: rest) a w :=
  wpList_load_part hgd ty x ho g 0 hx t' cs cs fr d hu hd hg (hn ▸ hi) (fun j _ => by simp) h

theorem wpList_wanted {ops : Array Oper} {rest : List Oper} {o : Oper} {a : Act} {w : World} {Q : Exit → Act → World → Prop} (hw : Region.wanted o (yielded ops a.tmps) = true)
    (h : ∀ K : Act → World → Prop, (∀ a w, wpList P ops Q rest a w → K a w) → o.wp P a w K Q) : wpList P ops Q (o :: rest) a w :=
  wpList_step fun K hK => by rw [if_pos hw]; exact h K hK
/-- A load of an aggregate that is known, its guard saying yes. -/
theorem wpList_load_at {ops : Array Oper} {rest : List Oper} {o : Oper} {a : Act} {w : World} {Q : Exit → Act → World → Prop} (ty : TypeId) (x : Operand) (ho : o.op = .load ty x)
    (g : Nat) (hx : a.eval x = .pointer (some ⟨g, 0, none⟩)) (hw : Region.wanted o (yielded ops a.tmps) = true) (d : TypeDesc) (hu : P.underlying ty = some d)
    (hd : (match d with | .struct _ | .array _ _ => true | _ => false) = true) (n : Nat) (hi : (P.info? ty).map (·.size) = some n) (t' : TypeId) (cs : Array Value) (fr : Nat × Nat) (hg : w.heap[g]? = some (.cells cs t' fr)) (hn : cs.size = n)
    (h : wpList P ops Q rest (a.put o.dst (.agg cs)) w) : wpList P ops Q (o :: rest) a w :=
  wpList_wanted hw fun _ hK => wp_load_part ty x ho g 0 hx t' cs cs fr d hu hd hg (hn ▸ hi) (fun j _ => by simp) (hK _ _ h)

/-- Cells written into an array from a place on. -/
def putAt (cs : Array Value) (o : Nat) (vs : List Value) : Array Value := (cs.toList.take o ++ vs ++ cs.toList.drop (o + vs.length)).toArray
theorem putAt_all (cs vs : Array Value) (h : cs.size = vs.size) : putAt cs 0 vs.toList = vs := by
  unfold putAt
  rw [List.take_zero, List.drop_eq_nil_of_le (by simp; omega)]
  simp
theorem putAt_size (cs : Array Value) (o : Nat) (vs : List Value) (h : o + vs.length ≤ cs.size) : (putAt cs o vs).size = cs.size := by
  simp [putAt]; omega

theorem putAt_one (cs : Array Value) (o : Nat) (v : Value) (h : o < cs.size) : putAt cs o [v] = cs.setIfInBounds o v := by
  apply Array.ext_getElem?
  intro j
  unfold putAt
  simp only [List.getElem?_toArray, List.length_singleton, Array.getElem?_setIfInBounds, h, if_true]
  rw [List.append_assoc]
  by_cases h1 : o = j
  · subst h1
    have : (cs.toList.take o).length = o := by simp; omega
    rw [List.getElem?_append_right (by omega)]
    simp [this]
  · rw [if_neg h1]
    rcases Nat.lt_or_ge j o with h2 | h2
    · rw [List.getElem?_append_left (by simp; omega)]
      simp [h2]
    · have : (cs.toList.take o).length = o := by simp; omega
      rw [List.getElem?_append_right (by omega), this, List.getElem?_append_right (by simp; omega)]
      simp
      congr 1
      omega
theorem bv_set (l : List UInt8) (i : Nat) (b : UInt8) : (bv l).setIfInBounds i (.int .u8 (b.toNat : Int)) = bv (l.set i b) := by
  apply Array.ext_getElem?
  intro j
  simp only [bv, Array.getElem?_setIfInBounds, List.getElem?_toArray, List.getElem?_map, List.getElem?_set, List.size_toArray, List.length_map]
  by_cases h : i = j
  · subst h
    by_cases h2 : i < l.length <;> simp [h2]
  · simp [h]

theorem run_storeVar_part (w : World) (g o : Nat) (ty t : TypeId) (n : Nat) (cur : Array Value) (v : Value) (hg : w.heap[g]? = some (.cells cur t (0, 0))) (hi : (P.info? ty).map (·.size) = some n) (hn : v.cells.size = n)
    (hl : o + n ≤ cur.size) (h1 : ∀ u ∈ v.cells.toList, u.oneCell' = true) : (storeVar ty ⟨g, o, none⟩ v).run P w = .ok () (w.setRow g (putAt cur o v.cells.toList)) := by
  have h := run_storeCells_at (P := P) g o t v.cells.toList 0 cur w hg (by simp; omega) h1
  simp only [Nat.add_zero] at h
  simp only [storeVar, Sem.run_bind, run_sizeOf hi, Result.andThen_ok, hn]
  simpa [putAt] using h

/-- A store of a value of n cells into a block that is known whole. -/
theorem wpList_store_part {ops : Array Oper} {rest : List Oper} {o : Oper} {a : Act} {w : World} {Q : Exit → Act → World → Prop} (ty : TypeId) (x y : Operand) (ho : o.op = .store ty x y)
    (g off : Nat) (hx : a.eval x = .pointer (some ⟨g, off, none⟩)) (hw : Region.wanted o (yielded ops a.tmps) = true) (v : Value) (hy : a.eval y = v) (n : Nat) (hi : (P.info? ty).map (·.size) = some n) (hn : v.cells.size = n) (h1 : ∀ u ∈ v.cells.toList, u.oneCell' = true)
    (t : TypeId) (cur : Array Value) (hg : w.heap[g]? = some (.cells cur t (0, 0))) (hl : off + n ≤ cur.size)
    (h : ∀ W : World, W.heap[g]? = some (.cells (putAt cur off v.cells.toList) t (0, 0)) → Tch (· = g) w W → W.heap.size = w.heap.size → wpList P ops Q rest (a.put o.dst undef) W) : wpList P ops Q (o :: rest) a w := by
  refine wpList_wanted hw fun K hK => ?_
  have hrun : (execOp a.eval o).run P w = .ok .skip (w.setRow g (putAt cur off v.cells.toList)) := by
    unfold execOp
    simp only [ho, hx, hy, Instr.storeAt, Instr.sureAddr, Sem.run_bind, Sem.run_pure, Result.andThen_ok, run_storeVar_part w g off ty t n cur v hg hi hn hl h1]
  unfold Oper.wp
  rw [hrun]
  exact hK _ _ (h _ (setRow_heap w g cur _ t _ hg) ⟨rfl, rfl, rfl, by simp, fun k _ hk => setRow_other w g k _ hk⟩ (by simp))

/-- A store of a whole aggregate over a block of its size. -/
theorem wpList_store_box {ops : Array Oper} {rest : List Oper} {o : Oper} {a : Act} {w : World} {Q : Exit → Act → World → Prop} (ty : TypeId) (x y : Operand) (ho : o.op = .store ty x y)
    (g : Nat) (hx : a.eval x = .pointer (some ⟨g, 0, none⟩)) (hw : Region.wanted o (yielded ops a.tmps) = true) (cs : Array Value) (hy : a.eval y = .agg cs) (n : Nat) (hi : (P.info? ty).map (·.size) = some n) (hn : cs.size = n) (h1 : ∀ u ∈ cs.toList, u.oneCell' = true)
    (t : TypeId) (cur : Array Value) (hg : w.heap[g]? = some (.cells cur t (0, 0))) (hl : cur.size = n)
    (h : ∀ W : World, W.heap[g]? = some (.cells cs t (0, 0)) → Tch (· = g) w W → W.heap.size = w.heap.size → wpList P ops Q rest (a.put o.dst undef) W) : wpList P ops Q (o :: rest) a w :=
  wpList_store_part ty x y ho g 0 hx hw (.agg cs) hy n hi hn h1 t cur hg (by omega) (fun W hW hT hs => h W (by
    rw [show (Value.agg cs).cells.toList = cs.toList from rfl, putAt_all cur cs (hl.trans hn.symm)] at hW
    exact hW) hT hs)

/-- A new variable, of the type's zero. -/
theorem wpList_alloc {ops : Array Oper} {rest : List Oper} {o : Oper} {a : Act} {w : World} {Q : Exit → Act → World → Prop} (ty : TypeId) (ho : o.op = .alloc ty) (hw : Region.wanted o (yielded ops a.tmps) = true) (z : Value) (hz : ∀ W, (zeroValue ty).run P W = .ok z W)
    (h : ∀ (g : Nat) (W : World), W.heap[g]? = some (.cells z.cells ty (0, 0)) → g < W.heap.size → w.heap.size ≤ g → Below w.heap.size w W → wpList P ops Q rest (a.put o.dst (.pointer (some ⟨g, 0, none⟩))) W) : wpList P ops Q (o :: rest) a w := by
  refine wpList_wanted hw fun K hK => ?_
  have hrun : (execOp a.eval o).run P w = .ok (.value (.pointer (some ⟨w.heap.size, 0, none⟩))) (w.alloc (.cells z.cells ty)) := by
    unfold execOp
    simp only [ho, Instr.alloc, Sem.run_bind, hz w, Result.andThen_ok]
    rfl
  unfold Oper.wp
  rw [hrun]
  exact hK _ _ (h w.heap.size _ (heap_alloc_at _ _ rfl) (by simp) (Nat.le_refl _) ((Below.refl _ _).alloc (Nat.le_refl _) _))

/-- An operation that yields a value and leaves the world. -/
theorem wpList_val {ops : Array Oper} {rest : List Oper} {o : Oper} {a : Act} {w : World} {Q : Exit → Act → World → Prop} (hw : Region.wanted o (yielded ops a.tmps) = true) (v : Value) (hrun : (execOp a.eval o).run P w = .ok (.value v) w)
    (h : wpList P ops Q rest (a.put o.dst v) w) : wpList P ops Q (o :: rest) a w :=
  wpList_wanted hw fun K hK => by
    unfold Oper.wp
    rw [hrun]
    exact hK _ _ h
/-- An aggregate built. -/
theorem wpList_buildv {ops : Array Oper} {rest : List Oper} {o : Oper} {a : Act} {w : World} {Q : Exit → Act → World → Prop} (ty : TypeId) (ps : Array (Nat × Operand)) (ho : o.op = .build ty ps) (hw : Region.wanted o (yielded ops a.tmps) = true)
    (vs : Array (Nat × Value)) (hvs : (ps.map fun (i, x) => (i, a.eval x)) = vs) (v : Value) (hb : ∀ W, (Instr.build ty vs).run P W = .ok v W)
    (h : wpList P ops Q rest (a.put o.dst v) w) : wpList P ops Q (o :: rest) a w := by
  refine wpList_val hw v ?_ h
  unfold execOp
  simp only [ho, hvs, Sem.run_bind, hb, Result.andThen_ok, Sem.run_pure]

/-- A load of an aggregate, behind a name that the walk does not open. -/
def loadK (t : TypeId) (v : Value) : Sem Next := do pure (.value (← Instr.loadAt t v))
theorem run_loadK {w : World} {g off : Nat} {t' ty : TypeId} {cs vs : Array Value} {fr : Nat × Nat} {d : TypeDesc} (hg : w.heap[g]? = some (.cells cs t' fr))
    (hu : P.underlying ty = some d) (hd : (match d with | .struct _ | .array _ _ => true | _ => false) = true) {n : Nat} (hi : (P.info? ty).map (·.size) = some n) (hn : vs.size = n)
    (hv : ∀ j, j < vs.size → cs[off + j]? = vs[j]?) : (loadK ty (.pointer (some ⟨g, off, none⟩))).run P w = .ok (.value (.agg vs)) w := by
  subst hn
  simp only [loadK, Instr.loadAt, Instr.sureAddr, Sem.run_bind, Sem.run_pure, Result.andThen_ok, run_loadVar_part w g off t' ty cs vs fr hg hu hd hi hv]
theorem run_loadK_box {w : World} {g : Nat} {t' ty : TypeId} {cs : Array Value} {fr : Nat × Nat} {d : TypeDesc} (hg : w.heap[g]? = some (.cells cs t' fr))
    (hu : P.underlying ty = some d) (hd : (match d with | .struct _ | .array _ _ => true | _ => false) = true) {n : Nat} (hi : (P.info? ty).map (·.size) = some n) (hn : cs.size = n) :
    (loadK ty (.pointer (some ⟨g, 0, none⟩))).run P w = .ok (.value (.agg cs)) w := run_loadK hg hu hd hi hn (fun j _ => by simp)
/-- A comparison of aggregates, behind a name that the walk does not open. -/
def cmpK (op : BinOp) (t : TypeId) (x y : Operand) (a b : Value) : Sem Next := do pure (.value (← (do eqGuard op t x y a b; binOp op t a b)))

/-- A value laid into a new block of its own: the world behind it is a variable. -/
theorem wpList_box {ops : Array Oper} {rest : List Oper} {o : Oper} {a : Act} {w : World} {Q : Exit → Act → World → Prop} (hgd : o.guard = none) (ty : TypeId) (x : Operand) (ho : o.op = .box ty x) (v : Value) (hv : a.eval x = v)
    (h : ∀ (g : Nat) (W : World), W.heap[g]? = some (.cells v.cells ty (0, 0)) → g < W.heap.size → w.heap.size ≤ g → Below w.heap.size w W → wpList P ops Q rest (a.put o.dst (.pointer (some ⟨g, 0, none⟩))) W) : wpList P ops Q (o :: rest) a w := by
  subst hv
  refine wpList_plain hgd fun K hK => ?_
  have hrun : (execOp a.eval o).run P w = .ok (.value (.pointer (some ⟨w.heap.size, 0, none⟩))) (w.alloc (.cells (a.eval x).cells ty)) := by
    unfold execOp
    simp only [ho]
    rfl
  unfold Oper.wp
  rw [hrun]
  exact hK _ _ (h w.heap.size _ (heap_alloc_at _ _ rfl) (by simp) (Nat.le_refl _) ((Below.refl _ _).alloc (Nat.le_refl _) _))

section
variable {ops : Array Oper} {C : World → Prop} {Q : Act → Prop} {o : Oper} {a : Act} {rest : List Oper}
theorem wpQuiet_op (hw : Region.wanted o (yielded ops a.tmps) = true) (v : Value) (h : ∀ W, C W → o.quietAt P a C W v) (hK : wpQuiet P ops C Q rest (a.put o.dst v)) : wpQuiet P ops C Q (o :: rest) a := by
  unfold wpQuiet
  rw [if_pos hw]
  exact ⟨v, h, hK⟩

theorem wpQuiet_ex (hw : Region.wanted o (yielded ops a.tmps) = true) (h : ∃ v, (∀ W, C W → o.quietAt P a C W v) ∧ wpQuiet P ops C Q rest (a.put o.dst v)) : wpQuiet P ops C Q (o :: rest) a :=
  let ⟨v, h1, h2⟩ := h
  wpQuiet_op hw v h1 h2
theorem wp_region_class {id : Nat} {Q : Exit → Act → World → Prop} {a : Act} {w : World} {l : List Oper} (C : World → Prop) (hm : P.follows .mixedOrders = true) (hB : Region.lexB .any l.toArray = true) (hC : C w.drew)
    (h : wpQuiet P l.toArray C (fun a' => ∀ w', C w' → Q .normal a' w') l a) : (Code.region id l.toArray true).wp P Q a w :=
  wp_region_quiet (C := C) hm hB hC (by simpa using h)

theorem wpQuiet_load_box (ty : TypeId) (x : Operand) (ho : o.op = .load ty x)
    (g : Nat) (hx : a.eval x = .pointer (some ⟨g, 0, none⟩)) (hw : Region.wanted o (yielded ops a.tmps) = true) (d : TypeDesc) (hu : P.underlying ty = some d)
    (hd : (match d with | .struct _ | .array _ _ => true | _ => false) = true) (n : Nat) (hi : (P.info? ty).map (·.size) = some n) (t' : TypeId) (cs : Array Value) (fr : Nat × Nat) (hg : ∀ w, C w → w.heap[g]? = some (.cells cs t' fr)) (hn : cs.size = n)
    (h : ∀ K : Act → Prop, (∀ a, wpQuiet P ops C Q rest a → K a) → K (a.put o.dst (.agg cs))) : wpQuiet P ops C Q (o :: rest) a :=
  wpQuiet_op hw (.agg cs) (fun W hW => by
    unfold Oper.quietAt execOp
    simp only [ho, hx, Instr.loadAt, Instr.sureAddr, Sem.run_bind, Sem.run_pure, Result.andThen_ok, run_loadVar_part W g 0 t' ty cs cs fr (hg W hW) hu hd (hn ▸ hi) (fun j _ => by simp)]
    exact ⟨rfl, rfl⟩) (h _ fun _ hh => hh)

/-- One operation that yields a value, what follows behind a variable. -/
theorem wpQuiet_exK (hw : Region.wanted o (yielded ops a.tmps) = true) (h : ∀ K : Act → Prop, (∀ a, wpQuiet P ops C Q rest a → K a) → ∃ v, (∀ W, C W → o.quietAt P a C W v) ∧ K (a.put o.dst v)) : wpQuiet P ops C Q (o :: rest) a :=
  wpQuiet_ex hw (h _ fun _ hh => hh)
/-- A call, met by its contract in every world of the class. -/
theorem wpQuiet_callK (f : FuncId) (_ho : ∃ args ts, o.op = .call { callee := .value (.func f), args := args, argTypes := ts }) (hw : Region.wanted o (yielded ops a.tmps) = true) (hx : ∃ vs, (∀ W, (execOp a.eval o).run P W = .ok (.enter f vs) W) ∧ ∃ v, (∀ W, C W → Calls P f vs W fun e W' => e = .returned v ∧ C W') ∧
    ∀ K : Act → Prop, (∀ a, wpQuiet P ops C Q rest a → K a) → K (a.put o.dst v)) : wpQuiet P ops C Q (o :: rest) a :=
  let ⟨_, hrun, v, hc, h⟩ := hx
  wpQuiet_op hw v (fun W hW => by
    unfold Oper.quietAt
    rw [hrun W]
    exact ⟨rfl, hc W hW⟩) (h _ fun _ hh => hh)
/-- An operation whose guard says no. -/
theorem wpQuiet_skipK (hw : Region.wanted o (yielded ops a.tmps) = false) (h : ∀ K : Act → Prop, (∀ a, wpQuiet P ops C Q rest a → K a) → K (a.put o.dst undef)) : wpQuiet P ops C Q (o :: rest) a := by
  unfold wpQuiet
  rw [if_neg (by simp [hw])]
  exact h _ fun _ hh => hh
end
end
end Go.Cu
/- What lies in memory side by side: each thing in blocks of its own, none of them the caller's. -/
namespace Go.Cu
open Go Go.RowKit
/-- Something that lies in blocks of its own: it speaks of these alone. -/
structure Atm where
  in_ : (Nat → Prop) → World → Prop
  keep : ∀ {F : Nat → Prop} {W W' : World}, in_ F W → (∀ g, g < W.heap.size → F g → W'.heap[g]? = W.heap[g]?) → in_ F W'
  mono : ∀ {F G : Nat → Prop} {W : World}, in_ F W → (∀ g, g < W.heap.size → F g → G g) → in_ G W

def Star : List Atm → (Nat → Prop) → World → Prop
  | [], _, _ => True
  | a :: L, F, W => ∃ G : Nat → Prop, a.in_ (fun g => F g ∧ G g) W ∧ Star L (fun g => F g ∧ ¬ G g) W
theorem Star.keep {W W' : World} : ∀ {L : List Atm} {F : Nat → Prop}, Star L F W → (∀ g, g < W.heap.size → F g → W'.heap[g]? = W.heap[g]?) → Star L F W'
  | [], _, _, _ => trivial
  | a :: _, _, ⟨G, h, r⟩, hk => ⟨G, a.keep h fun g hg hf => hk g hg hf.1, Star.keep r fun g hg hf => hk g hg hf.1⟩
theorem Star.mono {W : World} : ∀ {L : List Atm} {F F' : Nat → Prop}, Star L F W → (∀ g, g < W.heap.size → F g → F' g) → Star L F' W
  | [], _, _, _, _ => trivial
  | a :: _, _, _, ⟨G, h, r⟩, hk => ⟨G, a.mono h fun g hg hf => ⟨hk g hg hf.1, hf.2⟩, Star.mono r fun g hg hf => ⟨hk g hg hf.1, hf.2⟩⟩
theorem Star.swap {W : World} {a b : Atm} {L : List Atm} {F : Nat → Prop} : Star (a :: b :: L) F W → Star (b :: a :: L) F W := by
  rintro ⟨G, ha, H, hb, r⟩
  refine ⟨fun g => ¬ G g ∧ H g, b.mono hb fun g _ hf => ⟨hf.1.1, hf.1.2, hf.2⟩, G, a.mono ha fun g _ hf => ⟨⟨hf.1, fun h => h.1 hf.2⟩, hf.2⟩, r.mono fun g _ hf => ⟨⟨hf.1.1, fun h => hf.2 h.2⟩, hf.1.2⟩⟩
theorem Star.perm {W : World} {L M : List Atm} (h : L.Perm M) : ∀ {F : Nat → Prop}, Star L F W → Star M F W := by
  induction h with
  | nil => exact id
  | cons a _ ih => rintro F ⟨G, h, r⟩; exact ⟨G, h, ih r⟩
  | swap a b l => exact Star.swap
  | trans _ _ i j => exact fun h => j (i h)

/-- What the caller had is as it was; the things of L lie in blocks that came since. -/
structure St (W0 : World) (L : List Atm) (W : World) : Prop where
  below : Below W0.heap.size W0 W
  star : Star L (fun g => W0.heap.size ≤ g) W
section
variable {W0 W W' : World} {L M : List Atm} {a b c d e a' : Atm}
theorem St.start (W0 : World) : St W0 [] W0 := ⟨Below.refl _ _, trivial⟩
theorem St.size (h : St W0 L W) : W0.heap.size ≤ W.heap.size := h.below.size
theorem St.perm (h : St W0 L W) (p : L.Perm M) : St W0 M W := ⟨h.below, h.star.perm p⟩
theorem St.at2 (h : St W0 (a :: b :: L) W) : St W0 (b :: a :: L) W := ⟨h.below, h.star.swap⟩
theorem St.at3 (h : St W0 (a :: b :: c :: L) W) : St W0 (c :: a :: b :: L) W := h.perm (((List.Perm.swap c b L).cons a).trans (List.Perm.swap c a (b :: L)))
theorem St.back3 (h : St W0 (c :: a :: b :: L) W) : St W0 (a :: b :: c :: L) W := h.perm (((List.Perm.swap a c (b :: L))).trans ((List.Perm.swap b c L).cons a))
theorem St.at4 (h : St W0 (a :: b :: c :: d :: L) W) : St W0 (d :: a :: b :: c :: L) W := by
  obtain ⟨hb, G, ha, r⟩ := h
  exact (show St W0 (a :: d :: b :: c :: L) W from ⟨hb, G, ha, r.perm (((List.Perm.swap d c L).cons b).trans (List.Perm.swap d b (c :: L)))⟩).at2
theorem St.back4 (h : St W0 (d :: a :: b :: c :: L) W) : St W0 (a :: b :: c :: d :: L) W := by
  obtain ⟨hb, G, ha, r⟩ := h.at2
  exact ⟨hb, G, ha, r.perm (((List.Perm.swap b d (c :: L))).trans ((List.Perm.swap c d L).cons b))⟩
/-- The first thing: its blocks; what may become of it, with all else as it was. -/
theorem St.first (h : St W0 (a :: L) W) : ∃ F : Nat → Prop, a.in_ F W ∧ (∀ g, F g → W0.heap.size ≤ g ∧ g < W.heap.size) ∧
    ∀ (a' : Atm) (W' : World), a'.in_ (fun g => F g ∨ W.heap.size ≤ g) W' → Tch F W W' → St W0 (a' :: L) W' := by
  obtain ⟨hb, G, ha, r⟩ := h
  refine ⟨fun g => (W0.heap.size ≤ g ∧ G g) ∧ g < W.heap.size, a.mono ha fun g hg hf => ⟨hf, hg⟩, fun g hg => ⟨hg.1.1, hg.2⟩, fun a' W' ha' ht => ⟨hb.trans (ht.below hb.size fun i hi => hi.1.1), fun g => (G g ∧ g < W.heap.size) ∨ W.heap.size ≤ g, ?_, ?_⟩⟩
  · refine a'.mono ha' fun g _ hf => ?_
    have := hb.size
    rcases hf with hf | hf
    · exact ⟨hf.1.1, .inl ⟨hf.1.2, hf.2⟩⟩
    · exact ⟨by omega, .inr hf⟩
  · refine Star.mono (Star.keep (r.mono (F' := fun g => (W0.heap.size ≤ g ∧ ¬ G g) ∧ g < W.heap.size) fun g hg hf => ⟨hf, hg⟩) fun g hg hf => ht.block g hg fun hx => hf.1.2 hx.1.2) fun g _ hf => ⟨hf.1.1, ?_⟩
    rintro (h | h)
    · exact hf.1.2 h.1
    · omega
theorem St.turn (h : St W0 L W) (hb : Below W.heap.size W W') : St W0 L W' :=
  ⟨h.below.trans (hb.mono h.size), (Star.keep (h.star.mono (F' := fun g => W0.heap.size ≤ g ∧ g < W.heap.size) fun _ hg hf => ⟨hf, hg⟩) fun g _ hf => hb.block g hf.2).mono fun _ _ hf => hf.1⟩
theorem St.push (h : St W0 L W) (hb : Below W.heap.size W W') (ha : a.in_ (fun g => W.heap.size ≤ g) W') : St W0 (a :: L) W' := by
  have h' : Star L (fun g => W0.heap.size ≤ g ∧ g < W.heap.size) W' := Star.keep (h.star.mono (F' := fun g => W0.heap.size ≤ g ∧ g < W.heap.size) fun _ hg hf => ⟨hf, hg⟩) fun g hg hf => hb.block g hf.2
  have hs := h.size
  exact ⟨h.below.trans (hb.mono h.size), fun g => W.heap.size ≤ g, a.mono ha fun g _ hf => ⟨by omega, hf⟩, h'.mono fun g _ hf => ⟨hf.1, by omega⟩⟩
theorem St.drop (h : St W0 (a :: L) W) : St W0 L W := by
  obtain ⟨hb, G, ha, r⟩ := h
  exact ⟨hb, r.mono fun _ _ hf => hf.1⟩
theorem St.drop2 (h : St W0 (a :: b :: L) W) : St W0 (a :: L) W := h.at2.drop
theorem St.drop3 (h : St W0 (a :: b :: c :: L) W) : St W0 (a :: b :: L) W := h.at3.drop
end

/-- A block that is known whole. -/
def Blk (g : Nat) (cs : Array Value) (t : TypeId) : Atm :=
  ⟨fun F W => F g ∧ W.heap[g]? = some (.cells cs t (0, 0)), fun {F W W'} h hk => ⟨h.1, (hk g (by
      rcases Nat.lt_or_ge g W.heap.size with h1 | h1
      · exact h1
      · have := h.2; rw [Array.getElem?_eq_none h1] at this; cases this) h.1).trans h.2⟩, fun {F G W} h hm => ⟨hm g (by
      rcases Nat.lt_or_ge g W.heap.size with h1 | h1
      · exact h1
      · have := h.2; rw [Array.getElem?_eq_none h1] at this; cases this) h.1, h.2⟩⟩
theorem heap_lt {W : World} {g : Nat} {o : Obj} (h : W.heap[g]? = some o) : g < W.heap.size := by
  rcases Nat.lt_or_ge g W.heap.size with h1 | h1
  · exact h1
  · rw [Array.getElem?_eq_none h1] at h; cases h
/-- A slice that owns its row: v's n elements of s cells each are xs. -/
def Row (v : Value) (e s n : Nat) (xs : List Value) : Atm :=
  ⟨fun F W => (∀ g, v.ownBlock = some g → F g) ∧ W.ownsRow 0 e s v n xs, fun {F W W'} h hk => ⟨h.1, h.2.1, by
      rcases h.2.2 with h' | ⟨g, c, cur, rfl, hb, hh, r⟩
      · exact .inl h'
      · exact .inr ⟨g, c, cur, rfl, hb, (hk g (heap_lt hh) (h.1 g (by simp [Value.ownBlock]))).trans hh, r⟩⟩, fun {F G W} h hm => ⟨fun g hg => hm g (by
      rcases h.2.2 with ⟨rfl, _⟩ | ⟨g', c, cur, rfl, _, hh, _⟩
      · simp [Value.ownBlock] at hg
      · have : g' = g := by simpa [Value.ownBlock] using hg
        subst this
        exact heap_lt hh) (h.1 g hg), h.2⟩⟩
section
variable {W0 W W' : World} {L : List Atm} {g : Nat} {cs : Array Value} {t : TypeId}
theorem St.blk (h : St W0 (Blk g cs t :: L) W) : W.heap[g]? = some (.cells cs t (0, 0)) := by
  obtain ⟨F, ha, _, _⟩ := h.first
  exact ha.2
theorem St.blk_ge (h : St W0 (Blk g cs t :: L) W) : W0.heap.size ≤ g := by
  obtain ⟨F, ha, hf, _⟩ := h.first
  exact (hf _ ha.1).1
theorem St.newBlk (h : St W0 L W) (hb : Below W.heap.size W W') (hg : W.heap.size ≤ g) (hc : W'.heap[g]? = some (.cells cs t (0, 0))) : St W0 (Blk g cs t :: L) W' := h.push hb ⟨hg, hc⟩
theorem St.put {cs' : Array Value} {t' : TypeId} (h : St W0 (Blk g cs t :: L) W) (hc : W'.heap[g]? = some (.cells cs' t' (0, 0))) (ht : Tch (· = g) W W') : St W0 (Blk g cs' t' :: L) W' := by
  obtain ⟨F, ha, _, hr⟩ := h.first
  exact hr _ _ ⟨.inl ha.1, hc⟩ (ht.mono fun i _ e => by subst e; exact ha.1)
theorem St.setCell (h : St W0 (Blk g cs t :: L) W) (i : Nat) (v : Value) : St W0 (Blk g (cs.setIfInBounds i v) t :: L) (W.setCell ⟨g, i, none⟩ v) :=
  h.put (heap_setCell_same W g i cs t v h.blk) ((Tch.refl (· = g) W).setCell rfl v)
theorem St.row {v : Value} {e s n : Nat} {xs : List Value} (h : St W0 (Row v e s n xs :: L) W) : W.ownsRow 0 e s v n xs := by
  obtain ⟨F, ha, _, _⟩ := h.first
  exact ha.2
/-- Two things lie apart. -/
theorem St.blk_ne {g' : Nat} {cs' : Array Value} {t' : TypeId} (h : St W0 (Blk g cs t :: Blk g' cs' t' :: L) W) : g ≠ g' := by
  obtain ⟨_, G, ha, H, hb, _⟩ := h
  rintro rfl
  exact hb.1.1.2 ha.1.2
end
end Go.Cu
/- Lists of chunks of one length, as cells one behind the other; blocks of bytes in a row. -/
namespace Go.Cu
open Go Go.RowKit
section
variable {α β : Type} {f : α → List β} {n : Nat}

theorem fm_len : ∀ (l : List α), (∀ x ∈ l, (f x).length = n) → (l.flatMap f).length = l.length * n
  | [], _ => by simp
  | x :: l, h => by
    have := fm_len l (fun y hy => h y (by simp [hy]))
    simp only [List.flatMap_cons, List.length_append, this, h x (by simp), List.length_cons, Nat.succ_mul]
    omega
theorem fm_get : ∀ (l : List α) (i j : Nat) (x : α), (∀ x ∈ l, (f x).length = n) → l[i]? = some x → j < n → (l.flatMap f)[i * n + j]? = (f x)[j]?
  | [], _, _, _, _, hi, _ => by simp at hi
  | y :: l, 0, j, x, h, hi, hj => by
    have e : y = x := by simpa using hi
    subst e
    rw [List.flatMap_cons, List.getElem?_append_left (by rw [h y (by simp)]; omega)]
    simp
  | y :: l, i + 1, j, x, h, hi, hj => by
    have hy := h y (by simp)
    rw [List.flatMap_cons, List.getElem?_append_right (by rw [hy, Nat.succ_mul]; omega), hy, show (i + 1) * n + j - n = i * n + j by rw [Nat.succ_mul]; omega]
    exact fm_get l i j x (fun z hz => h z (by simp [hz])) (by simpa using hi) hj
theorem fm_put : ∀ (l : List α) (i : Nat) (y : α), (∀ x ∈ l, (f x).length = n) → i < l.length →
    (l.flatMap f).take (i * n) ++ f y ++ (l.flatMap f).drop (i * n + n) = (l.set i y).flatMap f
  | [], _, _, _, hi => by simp at hi
  | x :: l, 0, y, h, _ => by
    have hx := h x (by simp)
    rw [List.flatMap_cons, List.set_cons_zero, List.flatMap_cons, Nat.zero_mul, Nat.zero_add, List.take_zero, List.nil_append, List.drop_append_of_le_length (by omega), List.drop_of_length_le (by omega), List.nil_append]
  | x :: l, i + 1, y, h, hi => by
    have hx := h x (by simp)
    have ih := fm_put l i y (fun z hz => h z (by simp [hz])) (by simpa using hi)
    rw [List.flatMap_cons, List.set_cons_succ, List.flatMap_cons, ← ih, show (i + 1) * n = (f x).length + i * n by rw [Nat.succ_mul, hx]; omega, List.take_length_add_append,
      show (f x).length + i * n + n = (f x).length + (i * n + n) by omega, List.drop_length_add_append]
    simp
end

/-- Bytes as a list of cells. -/
def bvL (l : List UInt8) : List Value := l.map fun b => Value.int .u8 b.toNat
theorem bvL_len (l : List UInt8) : (bvL l).length = l.length := by simp [bvL]
theorem bv_eq (l : List UInt8) : bv l = (bvL l).toArray := rfl
theorem bvL_one (l : List UInt8) : ∀ u ∈ bvL l, u.oneCell' = true := by
  intro u hu
  simp only [bvL, List.mem_map] at hu
  obtain ⟨b, _, rfl⟩ := hu
  rfl

abbrev Bk := List UInt8
/-- Blocks of bytes, one behind the other. -/
def flat (L : List Bk) : Array Value := (L.flatMap bvL).toArray
def Full (L : List Bk) : Prop := ∀ b ∈ L, b.length = 128
theorem Full.get {L : List Bk} (h : Full L) {i : Nat} {b : Bk} (hi : L[i]? = some b) : b.length = 128 := h b (List.mem_of_getElem? hi)
theorem Full.set {L : List Bk} (h : Full L) {i : Nat} {b : Bk} (hb : b.length = 128) : Full (L.set i b) := by
  intro x hx
  rcases List.mem_or_eq_of_mem_set hx with h1 | h1
  · exact h x h1
  · subst h1; exact hb
theorem Full.len {L : List Bk} (h : Full L) : ∀ x ∈ L, (bvL x).length = 128 := fun x hx => (bvL_len x).trans (h x hx)
theorem flat_size {L : List Bk} (h : Full L) : (flat L).size = L.length * 128 := by
  unfold flat
  rw [List.size_toArray]
  exact fm_len L h.len
theorem flat_get {L : List Bk} (h : Full L) {i : Nat} {b : Bk} (hi : L[i]? = some b) : ∀ j, j < (bv b).size → (flat L)[i * 128 + j]? = (bv b)[j]? := by
  intro j hj
  rw [bv_size, h.get hi] at hj
  unfold flat
  rw [bv_eq, List.getElem?_toArray, List.getElem?_toArray]
  exact fm_get L i j b h.len hi hj
theorem flat_put {L : List Bk} (h : Full L) {i : Nat} (hi : i < L.length) {b : Bk} (hb : b.length = 128) : putAt (flat L) (i * 128) (bvL b) = flat (L.set i b) := by
  unfold putAt flat
  rw [bvL_len, hb]
  congr 1
  exact fm_put L i b h.len hi

/-- A write that doesn't last yet: a place and a block. -/
def putL (p : Nat × Bk) : List Value := .int .i64 p.1 :: bvL p.2
def waitL (l : List (Nat × Bk)) : List Value := l.flatMap putL
def FullW (l : List (Nat × Bk)) : Prop := ∀ p ∈ l, p.2.length = 128
theorem FullW.len {l : List (Nat × Bk)} (h : FullW l) : ∀ x ∈ l, (putL x).length = 129 := fun x hx => by simp [putL, bvL_len, h x hx]
theorem waitL_len {l : List (Nat × Bk)} (h : FullW l) : (waitL l).length = l.length * 129 := fm_len l h.len
theorem waitL_get {l : List (Nat × Bk)} (h : FullW l) {i : Nat} {p : Nat × Bk} (hi : l[i]? = some p) : ∀ j, j < 129 → (waitL l)[i * 129 + j]? = (putL p)[j]? :=
  fun j hj => fm_get l i j p h.len hi hj
theorem waitL_snoc (l : List (Nat × Bk)) (p : Nat × Bk) : waitL (l ++ [p]) = waitL l ++ putL p := by simp [waitL]
theorem putL_one (p : Nat × Bk) : ∀ u ∈ putL p, u.oneCell' = true := by
  intro u hu
  rcases List.mem_cons.1 hu with rfl | h
  · rfl
  · exact bvL_one _ u h
theorem putL_len {p : Nat × Bk} (h : p.2.length = 128) : (putL p).length = 129 := by simp [putL, bvL_len, h]
theorem putL_size {p : Nat × Bk} (h : p.2.length = 128) : (putL p).toArray.size = 129 := by simp [putL, bvL_len, h]
end Go.Cu
/- Aggregates and one-element slices built out of values that are variables; append onto an own row, with the place of the new row. -/
namespace Go.Cu
open Go Go.RowKit

theorem list_put_put (l : List Value) (o : Nat) (v : Value) (vs : List Value) (h : o + (vs.length + 1) ≤ l.length) :
    (l.set o v).take (o + 1) ++ vs ++ (l.set o v).drop (o + 1 + vs.length) = l.take o ++ (v :: vs) ++ l.drop (o + (vs.length + 1)) := by
  have h1 : (l.set o v).take (o + 1) = l.take o ++ [v] := by
    rw [List.take_add_one, List.take_set_of_le (Nat.le_refl o)]
    simp [show o < l.length by omega]
  have h2 : (l.set o v).drop (o + 1 + vs.length) = l.drop (o + (vs.length + 1)) := by
    rw [List.drop_set_of_lt (by omega)]
    congr 1
    omega
  rw [h1, h2]
  simp
theorem fold_put : ∀ (vs : List Value) (k off : Nat) (cs : Array Value), off + k + vs.length ≤ cs.size →
    (vs.zipIdx k).foldl (fun cs (x : Value × Nat) => cs.setIfInBounds (off + x.2) x.1) cs = putAt cs (off + k) vs
  | [], k, off, cs, _ => by simp [putAt]
  | v :: vs, k, off, cs, h => by
    simp only [List.length_cons] at h
    rw [List.zipIdx_cons, List.foldl_cons, fold_put vs (k + 1) off _ (by simp; omega)]
    unfold putAt
    congr 1
    rw [Array.toList_setIfInBounds, List.length_cons, show off + (k + 1) = off + k + 1 by omega]
    exact list_put_put cs.toList (off + k) v vs (by simpa [Nat.add_assoc] using h)
theorem fill_one (place : Nat → Option (Nat × Nat)) (cs : Array Value) (i off size : Nat) (v : Value) (rest : List (Nat × Value)) (hp : place i = some (off, size)) (hs : v.cells.size = size) (ho : off + size ≤ cs.size) :
    Instr.fill place cs ((i, v) :: rest) = Instr.fill place (putAt cs off v.cells.toList) rest := by
  have hf : (v.cells.zipIdx.foldl (fun cs (x : Value × Nat) => cs.setIfInBounds (off + x.2) x.1) cs) = putAt cs off v.cells.toList := by
    rw [← Array.foldl_toList, Array.toList_zipIdx]
    simpa using fold_put v.cells.toList 0 off cs (by simp; omega)
  have hn : ¬ (v.cells.size ≠ size || decide (off + v.cells.size > cs.size)) = true := by
    rw [hs]; simp; omega
  rw [Instr.fill]
  simp only [hp]
  rw [if_neg (by simpa using hn)]
  exact congrArg (fun c => Instr.fill place c rest) hf

section
variable {P : Program} {t e : TypeId}
/-- A struct of two fields, the second an array. -/
theorem run_build2 {f0 f1 : Field} {s0 s1 : Nat} {z : Value} (ht : P.underlying t = some (.struct #[f0, f1])) (hz : ∀ W, (zeroValue t).run P W = .ok z W)
    (i0 : (P.info? f0.type).map (·.size) = some s0) (i1 : (P.info? f1.type).map (·.size) = some s1) (o0 : f0.offset = 0) (o1 : f1.offset = s0) (hsz : z.cells.size = s0 + s1)
    (a b : Value) (ha : a.cells.size = s0) (hb : b.cells.size = s1) (w : World) :
    (Instr.build t #[(0, a), (1, b)]).run P w = .ok (.agg (a.cells ++ b.cells)) w := by
  have hfill : Instr.fill (fun i => #[(f0.offset, s0), (f1.offset, s1)][i]?) z.cells [(0, a), (1, b)] = some (a.cells ++ b.cells) := by
    rw [fill_one _ _ 0 0 s0 a _ (by simp [o0]) ha (by omega), fill_one _ _ 1 s0 s1 b _ (by simp [o1]) hb (by rw [putAt_size _ _ _ (by simp; omega)]; omega)]
    rw [Instr.fill]
    congr 1
    apply Array.ext'
    unfold putAt
    simp only [List.take_zero, List.nil_append, Nat.zero_add, Array.length_toList, Array.toList_append]
    rw [List.take_append_of_le_length (by simp; omega), List.take_of_length_le (by simp; omega), List.drop_of_length_le (by simp; omega), List.append_nil]
  unfold Instr.build
  simp only [Sem.run_bind, hz w, Result.andThen_ok, run_underlying ht]
  have hm : (Array.mapM (fun f : Field => do pure (f.offset, ← sizeOf f.type)) #[f0, f1] : Sem _).run P w = .ok #[(f0.offset, s0), (f1.offset, s1)] w := by
    simp [Sem.run_bind, run_sizeOf i0, run_sizeOf i1]
  simp only [hm, Result.andThen_ok]
  rw [hfill]
  rfl
/-- A new slice of one element. -/
theorem run_buildSlice1 {z : Value} {s : Nat} (ht : P.underlying t = some (.slice e)) (hz : ∀ W, (zeroValue e).run P W = .ok z W) (hi : (P.info? e).map (·.size) = some s) (h0 : 0 < s) (h24 : s ≤ 2 ^ 24)
    (a : Value) (ha : a.cells.size = s) (w : World) :
    (Instr.buildSlice t 1 #[(0, a)]).run P w = .ok (.slice (some ⟨w.heap.size, 0, none⟩) 1 1) (w.alloc (.cells a.cells e)) := by
  have hfill : ∀ c : Array Value, c.size = s → Instr.fill (fun i => some (i * s, s)) c [(0, a)] = some a.cells := by
    intro c hc
    rw [fill_one _ _ 0 0 s a _ (by simp) ha (by omega), Instr.fill]
    rw [putAt_all _ _ (hc.trans ha.symm)]
  unfold Instr.buildSlice
  have h1 : ¬ (1 * s > 2 ^ 24) := by omega
  have h2 : ¬ (1 * s = 0) := by omega
  simp only [Sem.run_bind, run_underlying ht, Result.andThen_ok, run_sizeOf hi]
  rw [if_neg h1, if_neg h2]
  simp only [Sem.run_bind, hz, Result.andThen_ok, Sem.run_pure]
  rw [hfill _ (by simp)]
  rfl

/-- Behind names that the walk does not open. -/
def buildK (t : TypeId) (vs : Array (Nat × Value)) : Sem Next := do pure (.value (← Instr.build t vs))
def buildSliceK (t : TypeId) (n : Nat) (vs : Array (Nat × Value)) : Sem Next := do pure (.value (← Instr.buildSlice t n vs))
theorem run_buildK {w : World} {vs : Array (Nat × Value)} {v : Value} (h : (Instr.build t vs).run P w = .ok v w) : (buildK t vs).run P w = .ok (.value v) w := by
  simp only [buildK, Sem.run_bind, h, Result.andThen_ok, Sem.run_pure]
theorem run_buildSliceK {w w' : World} {n : Nat} {vs : Array (Nat × Value)} {v : Value} (h : (Instr.buildSlice t n vs).run P w = .ok v w') : (buildSliceK t n vs).run P w = .ok (.value v) w' := by
  simp only [buildSliceK, Sem.run_bind, h, Result.andThen_ok, Sem.run_pure]

/-- A new slice of one element: its place is a variable. -/
theorem wpList_buildSlice1 {ops : Array Oper} {rest : List Oper} {o : Oper} {a : Act} {w : World} {Q : Exit → Act → World → Prop} (ps : Array (Nat × Operand)) (ho : o.op = .buildSlice t 1 ps) (x : Value) (hvs : (ps.map fun (i, y) => (i, a.eval y)) = #[(0, x)])
    (hw : Region.wanted o (yielded ops a.tmps) = true) {z : Value} {s : Nat} (ht : P.underlying t = some (.slice e)) (hz : ∀ W, (zeroValue e).run P W = .ok z W) (hi : (P.info? e).map (·.size) = some s) (h0 : 0 < s) (h24 : s ≤ 2 ^ 24) (hx : x.cells.size = s)
    (h : ∀ (g : Nat) (W : World), W.heap[g]? = some (.cells x.cells e (0, 0)) → g < W.heap.size → w.heap.size ≤ g → Below w.heap.size w W → wpList P ops Q rest (a.put o.dst (.slice (some ⟨g, 0, none⟩) 1 1)) W) : wpList P ops Q (o :: rest) a w := by
  refine wpList_wanted hw fun K hK => ?_
  have hrun : (execOp a.eval o).run P w = .ok (.value (.slice (some ⟨w.heap.size, 0, none⟩) 1 1)) (w.alloc (.cells x.cells e)) := by
    unfold execOp
    simp only [ho, hvs, Sem.run_bind, run_buildSlice1 ht hz hi h0 h24 x hx w, Result.andThen_ok, Sem.run_pure]
  unfold Oper.wp
  rw [hrun]
  exact hK _ _ (h w.heap.size _ (heap_alloc_at _ _ rfl) (by simp) (Nat.le_refl _) ((Below.refl _ _).alloc (Nat.le_refl _) _))

/-- append onto an own row: where the new row lies. -/
theorem wpList_append_at {ops : Array Oper} {rest : List Oper} {o : Oper} {a : Act} {w : World} {Q : Exit → Act → World → Prop} (s x : Operand) (t : TypeId)
    (ho : o.op = .call { callee := .builtin .append, args := #[s, x], argTypes := #[t, t] }) (v : Value) (hs : a.eval s = v) (ad : Addr) (m c : Nat) (hx : a.eval x = .slice (some ad) m c) (hw : Region.wanted o (yielded ops a.tmps) = true)
    (e : TypeId) (i : TypeInfo) (z : Value) (size bytes : Nat) (ht : P.underlying t = some (.slice e)) (hi : P.info? e = some i) (hz : i.zero = some z)
    (hsize : i.size = size) (hby : i.bytes = bytes) (hzs : z.cells.size = size) (hsz : 0 < size)
    (n : Nat) (xs : List Value) (hown : w.ownsRow 0 e size v n xs)
    (news : List Value) (hl : news.length = m * size) (hnews : ∀ j u, news[j]? = some u → w.cell? (ad.add j) = some u) (h1 : ∀ u ∈ news, u.oneCell' = true)
    (h63 : n + m ≤ maxLen) (hbytes : (n + m) * bytes ≤ 140737488355328)
    (h : ∀ v' w', w'.ownsRow 0 e size v' (n + m) (xs ++ news) → Tch (fun g => v.ownBlock = some g) w w' → (v'.ownBlock = v.ownBlock ∨ v'.ownBlock = some w.heap.size) → wpList P ops Q rest (a.put o.dst v') w') : wpList P ops Q (o :: rest) a w := by
  refine wpList_wanted hw fun K hK => ?_
  obtain ⟨v', w', hrun, h2, h3, _, h5⟩ := run_append_own_at (P := P) w 0 t o.type e i z size bytes ht hi hz hsize hby hzs hsz v n xs hown ad m c news hl hnews h1 h63 hbytes (Nat.zero_le _)
  unfold Oper.wp execOp
  simp only [ho, resolve, invoke, builtin, Sem.run_bind, Sem.run_pure, Result.andThen_ok, List.map_toArray, List.map_cons, List.map_nil, hs, hx, hrun]
  exact hK _ _ (h v' w' h2 ⟨h3.os, h3.tape, h3.output, h3.size, fun k hk hne => h3.block k hk (fun e => hne e.symm)⟩ h5)
end
end Go.Cu
/- Slices that grow, side by side with other things. -/
namespace Go.Cu
open Go Go.RowKit
section
variable {W0 W W' : World} {L : List Atm} {v v' : Value} {e s n n' : Nat} {xs xs' : List Value}
theorem St.grow (h : St W0 (Row v e s n xs :: L) W) (ho : W'.ownsRow 0 e s v' n' xs') (ht : Tch (fun g => v.ownBlock = some g) W W') (hb : v'.ownBlock = v.ownBlock ∨ v'.ownBlock = some W.heap.size) : St W0 (Row v' e s n' xs' :: L) W' := by
  obtain ⟨F, ha, _, hr⟩ := h.first
  refine hr _ _ ⟨fun g hg => ?_, ho⟩ (ht.mono fun i _ e => ha.1 i e)
  rcases hb with e | e
  · exact .inl (ha.1 g (e ▸ hg))
  · rw [hg] at e
    have : g = W.heap.size := Option.some.inj e
    exact .inr (by omega)
theorem St.nilRow (h : St W0 L W) (e s : Nat) : St W0 (Row (.slice none 0 0) e s 0 [] :: L) W :=
  h.push (Below.refl _ _) ⟨fun g hg => by simp [Value.ownBlock] at hg, by simp, .inl ⟨rfl, rfl⟩⟩
theorem row_slice (h : St W0 (Row v e s n xs :: L) W) : ∃ A c, v = .slice A n c ∧ n ≤ maxLen := by
  rcases h.row.2 with ⟨rfl, rfl⟩ | ⟨g, c, cur, rfl, _, _, hc, hm, _⟩
  · exact ⟨none, 0, rfl, Nat.zero_le _⟩
  · exact ⟨_, _, rfl, Nat.le_trans hc hm⟩
theorem news_box {g : Nat} {cs : Array Value} {t : TypeId} {fr : Nat × Nat} (h : W.heap[g]? = some (.cells cs t fr)) (l : List Value) (hl : cs.toList = l) : ∀ j u, l[j]? = some u → W.cell? ((⟨g, 0, none⟩ : Addr).add j) = some u := by
  intro j u hu
  have e : (⟨g, 0, none⟩ : Addr).add j = ⟨g, j, none⟩ := by unfold Addr.add; split <;> simp_all
  rw [e, cell_of_row W g j _ _ _ h]
  subst hl
  simpa using hu
end
end Go.Cu
/- A new slice of nothing, and a row that it begins; a slice of a known block appended to a row. -/
namespace Go.Cu
open Go Go.RowKit
section
variable {P : Program} {t e : TypeId}
theorem run_buildSlice0 {s : Nat} (ht : P.underlying t = some (.slice e)) (hi : (P.info? e).map (·.size) = some s) (w : World) :
    (Instr.buildSlice t 0 #[]).run P w = .ok (.slice (some ⟨w.heap.size, 0, none⟩) 0 0) (w.alloc (.cells #[] e)) := by
  unfold Instr.buildSlice
  have h1 : ¬ (0 * s > 2 ^ 24) := by omega
  have h2 : 0 * s = 0 := by omega
  simp only [Sem.run_bind, run_underlying ht, Result.andThen_ok, run_sizeOf hi]
  rw [if_neg h1, if_pos h2]
  simp only [Sem.run_bind, Sem.run_pure, Result.andThen_ok, h2, show Array.range 0 = #[] from by simp, Array.map_empty, Instr.fill]
  rfl
theorem wpList_buildSlice0 {ops : Array Oper} {rest : List Oper} {o : Oper} {a : Act} {w : World} {Q : Exit → Act → World → Prop} (ho : o.op = .buildSlice t 0 #[])
    (hw : Region.wanted o (yielded ops a.tmps) = true) {s : Nat} (ht : P.underlying t = some (.slice e)) (hi : (P.info? e).map (·.size) = some s)
    (h : ∀ (g : Nat) (W : World), W.heap[g]? = some (.cells #[] e (0, 0)) → g < W.heap.size → w.heap.size ≤ g → Below w.heap.size w W → wpList P ops Q rest (a.put o.dst (.slice (some ⟨g, 0, none⟩) 0 0)) W) : wpList P ops Q (o :: rest) a w := by
  refine wpList_wanted hw fun K hK => ?_
  have hrun : (execOp a.eval o).run P w = .ok (.value (.slice (some ⟨w.heap.size, 0, none⟩) 0 0)) (w.alloc (.cells #[] e)) := by
    unfold execOp
    simp only [ho, Array.map_empty, Sem.run_bind, run_buildSlice0 ht hi w, Result.andThen_ok, Sem.run_pure]
  unfold Oper.wp
  rw [hrun]
  exact hK _ _ (h w.heap.size _ (heap_alloc_at _ _ rfl) (by simp) (Nat.le_refl _) ((Below.refl _ _).alloc (Nat.le_refl _) _))
end
section
variable {W0 W W' : World} {L : List Atm}
theorem St.newRow0 {g e s : Nat} (h : St W0 L W) (hb : Below W.heap.size W W') (hg : W.heap.size ≤ g) (hc : W'.heap[g]? = some (.cells #[] e (0, 0))) : St W0 (Row (.slice (some ⟨g, 0, none⟩) 0 0) e s 0 [] :: L) W' :=
  h.push hb ⟨fun g' hg' => by
    have : g = g' := by simpa [Value.ownBlock] using hg'
    subst this
    exact hg, by simp, .inr ⟨g, 0, #[], rfl, Nat.zero_le _, hc, Nat.le_refl _, Nat.zero_le _, by simp, by simp⟩⟩
end
end Go.Cu
/- Arrays of bytes among a law's parameters: opened to 'bv'. -/
namespace Go.Cu
open Go Go.RowKit Go.ChangeShapes Go.WideShapes
section
variable {H : Type} {enc : TypeId × Value → H} {P : Program} {w : World} {base : Nat} {spare : Nat → Bool} {held : Bool}

theorem cells_bv : ∀ (cs : List Value), (∀ c ∈ cs, ∃ a : Int, c = .int .u8 a ∧ (Lit.int .u8 a).wf = true) → ∃ l : List UInt8, cs = l.map fun b => Value.int .u8 (b.toNat : Int)
  | [], _ => ⟨[], rfl⟩
  | c :: cs, h => by
    obtain ⟨a, rfl, ha⟩ := h c (by simp)
    obtain ⟨l, rfl⟩ := cells_bv cs (fun x hx => h x (by simp [hx]))
    have hb := bounds_u8 ha
    refine ⟨UInt8.ofNat a.toNat :: l, ?_⟩
    have : ((UInt8.ofNat a.toNat).toNat : Int) = a := by
      rw [UInt8.toNat_ofNat', Nat.mod_eq_of_lt (by omega)]
      omega
    rw [List.map_cons, this]

theorem open_bytes {r : Reach} {b0 : Nat} {t e : TypeId} {n : Nat} {v : Value} {d : DataW H} {p : List MemPlace} (ht : P.underlying t = some (.array n e)) (he : P.underlying e = some (.int .u8)) (hc : P.cellsOf e = 1) (hC : P.cellsOf t = n)
    (hv : Value.okWide P w r b0 t v) (h : DataW.Trod enc P w base spare held t v d p) : ∃ l : List UInt8, l.length = n ∧ v = .agg (bv l) := by
  simp only [Value.okWide, ht] at hv
  obtain ⟨cs, rfl, hsz, _⟩ := hv
  obtain ⟨fuel, hf⟩ := h
  obtain ⟨xs, m, _, _, _, hl, hel⟩ := DataW.trod_array ht hf
  rw [hC] at hsz
  have hall : ∀ c ∈ cs.toList, ∃ a : Int, c = .int .u8 a ∧ (Lit.int .u8 a).wf = true := by
    intro c hcm
    obtain ⟨i, hi, rfl⟩ := List.mem_iff_getElem.1 hcm
    have hin : i < n := by simpa [hsz] using hi
    have h1 := hel i hin
    rw [hc] at h1
    have h2 : (cs.toList.drop (i * 1)).take 1 = [cs.toList[i]] := by
      rw [Nat.mul_one, List.drop_eq_getElem_cons hi]
      rfl
    have hx : xs[i]? = some (xs[i]'(by omega)) := List.getElem?_eq_getElem (by omega)
    rw [show (Value.agg cs).cells.toList = cs.toList from rfl, h2, hx] at h1
    obtain ⟨a, e1, _, wa⟩ := DataW.trod_int he h1
    exact ⟨a, by simpa using e1, wa⟩
  obtain ⟨l, hl'⟩ := cells_bv cs.toList hall
  refine ⟨l, ?_, ?_⟩
  · have := congrArg List.length hl'
    simp only [Array.length_toList, List.length_map] at this
    omega
  · have : cs = bv l := by
      apply Array.ext'
      rw [hl', bv_toList]
    rw [this]
end
end Go.Cu
/- Slices among a law's parameters: their cells; lists out of 'there is one at each index'. -/
namespace Go.Cu
open Go Go.RowKit Go.ChangeShapes Go.WideShapes
theorem choose_list {α : Type} {p : Nat → α → Prop} : ∀ (n : Nat), (∀ i, i < n → ∃ x, p i x) → ∃ l : List α, l.length = n ∧ ∀ i x, l[i]? = some x → p i x
  | 0, _ => ⟨[], rfl, fun i x h => by simp at h⟩
  | n + 1, h => by
    obtain ⟨l, hl, hp⟩ := choose_list n fun i hi => h i (by omega)
    obtain ⟨x, hx⟩ := h n (by omega)
    refine ⟨l ++ [x], by simp [hl], fun i y hy => ?_⟩
    by_cases hi : i < n
    · rw [List.getElem?_append_left (by omega)] at hy
      exact hp i y hy
    · have hlt := (List.getElem?_eq_some_iff.1 hy).1
      simp only [List.length_append, List.length_singleton] at hlt
      have e : i = n := by omega
      subst e
      rw [List.getElem?_append_right (by omega)] at hy
      rw [hl, Nat.sub_self] at hy
      obtain rfl : x = y := by simpa using hy
      exact hx
section
variable {H : Type} {enc : TypeId × Value → H} {P : Program} {w : World} {base : Nat} {spare : Nat → Bool} {held : Bool}
/-- A slice's cells. -/
theorem slice_cells {t e : TypeId} {s fuel : Nat} {cs : List Value} {x : DataW H × List MemPlace} (ht : P.underlying t = some (.slice e)) (hs : P.cellsOf e = s) (h0 : 0 < s) (h : DataW.trod enc P w base spare held fuel t cs = some x) :
    ∃ (A : Option Addr) (len cap : Nat), cs = [.slice A len cap] ∧ len ≤ cap ∧ cap ≤ maxLen ∧ ∀ i, i < len → ∃ (g o n : Nat) (cs' : List Value) (y : DataW H × List MemPlace), A = some ⟨g, o, none⟩ ∧ g < w.heap.size ∧ cs'.length = s ∧
      (∀ k, k < s → w.cell? ⟨g, o + i * s + k, none⟩ = cs'[k]?) ∧ DataW.trod enc P w base spare held n e cs' = some y := by
  subst hs
  rcases DataW.trod_slice ht h with ⟨rfl, _⟩ | ⟨a, len, cap, elems, rest, n, _, rfl, _, _, hl, hm, hlen, hel, _, _⟩
  · exact ⟨none, 0, 0, rfl, Nat.le_refl _, Nat.zero_le _, fun i hi => absurd hi (by omega)⟩
  · refine ⟨some a, len, cap, rfl, hl, hm, fun i hi => ?_⟩
    have hspot : a.spot = none ∧ a.block < w.heap.size := by
      have h1 := hel 0 (by omega)
      rw [List.getElem?_eq_getElem (by omega), Option.bind_eq_some_iff] at h1
      obtain ⟨cs', hc, _⟩ := h1
      obtain ⟨_, hcl, hat⟩ := World.cells?_some hc
      have h2 := hat 0 h0
      rw [List.getElem?_eq_getElem (by omega)] at h2
      have e : (a.add (0 * P.cellsOf e)).add 0 = a := by simp [Addr.add]
      rw [e] at h2
      refine ⟨World.cell?_spot h2, ?_⟩
      rcases Nat.lt_or_ge a.block w.heap.size with h3 | h3
      · exact h3
      · unfold World.cell? at h2
        rw [Array.getElem?_eq_none h3] at h2
        simp at h2
    obtain ⟨g, o, sp⟩ := a
    obtain ⟨rfl, hg⟩ := hspot
    have h1 := hel i hi
    rw [List.getElem?_eq_getElem (by omega), Option.bind_eq_some_iff] at h1
    obtain ⟨cs', hc, hy⟩ := h1
    obtain ⟨_, hcl, hat⟩ := World.cells?_some hc
    refine ⟨g, o, n, cs', _, rfl, hg, hcl, fun k hk => ?_, hy⟩
    have h2 := hat k hk
    rw [Go.Deep.add_add] at h2
    have e : (⟨g, o, none⟩ : Addr).add (i * P.cellsOf e + k) = ⟨g, o + i * P.cellsOf e + k, none⟩ := by
      unfold Addr.add
      split
      · rename_i hz
        simp only [Addr.mk.injEq, and_true, true_and]
        omega
      · simp [Nat.add_assoc]
    rw [e] at h2
    exact h2
/-- A struct's fields. -/
theorem field_cells {t : TypeId} {fs : Array Field} {fuel : Nat} {cs : List Value} {x : DataW H × List MemPlace} (ht : P.underlying t = some (.struct fs)) (h : DataW.trod enc P w base spare held fuel t cs = some x) :
    ∀ (i : Nat) (f : Field), fs[i]? = some f → ∃ n y, DataW.trod enc P w base spare held n f.type ((cs.drop f.offset).take (P.cellsOf f.type)) = some y := by
  obtain ⟨xs, n, _, _, _, hl, hf⟩ := DataW.trod_struct ht h
  intro i f hi
  have h1 := hf i f hi
  have hlt := (Array.getElem?_eq_some_iff.1 hi).1
  rw [List.getElem?_eq_getElem (by omega)] at h1
  exact ⟨n, _, h1⟩
/-- A parameter that is a slice. -/
theorem param_slice {r : Reach} {b0 : Nat} {t e : TypeId} {s : Nat} {v : Value} {d : DataW H} {p : List MemPlace} (ht : P.underlying t = some (.slice e)) (hs : P.cellsOf e = s) (h0 : 0 < s)
    (hv : Value.okWide P w r b0 t v) (h : DataW.Trod enc P w base spare held t v d p) :
    ∃ (A : Option Addr) (len cap : Nat), v = .slice A len cap ∧ len ≤ cap ∧ cap ≤ maxLen ∧ ∀ i, i < len → ∃ (g o n : Nat) (cs' : List Value) (y : DataW H × List MemPlace), A = some ⟨g, o, none⟩ ∧ g < w.heap.size ∧ cs'.length = s ∧
      (∀ k, k < s → w.cell? ⟨g, o + i * s + k, none⟩ = cs'[k]?) ∧ DataW.trod enc P w base spare held n e cs' = some y := by
  obtain ⟨fuel, hf⟩ := h
  obtain ⟨A, len, cap, hcs, h1, h2, h3⟩ := slice_cells ht hs h0 hf
  refine ⟨A, len, cap, ?_, h1, h2, h3⟩
  simp only [Value.okWide, ht, Cell.okWide] at hv
  unfold Cell.ok at hv
  rw [ht] at hv
  cases v <;> simp [Value.cells] at hcs hv ⊢
  · exact hcs
end
/-- Bytes that lie in memory that was there. -/
def BytesIn (W : World) (A : Option Addr) (l : List UInt8) : Prop := ∀ i b, l[i]? = some b → ∃ g o, A = some ⟨g, o, none⟩ ∧ g < W.heap.size ∧ W.cell? ⟨g, o + i, none⟩ = some (.int .u8 b.toNat)
section
variable {H : Type} {enc : TypeId × Value → H} {P : Program} {w : World} {base : Nat} {spare : Nat → Bool} {held : Bool}
theorem bytes_cells {t e : TypeId} {fuel : Nat} {cs : List Value} {x : DataW H × List MemPlace} (ht : P.underlying t = some (.slice e)) (he : P.underlying e = some (.int .u8)) (hc : P.cellsOf e = 1) (h : DataW.trod enc P w base spare held fuel t cs = some x) :
    ∃ (A : Option Addr) (c : Nat) (l : List UInt8), cs = [.slice A l.length c] ∧ l.length ≤ maxLen ∧ BytesIn w A l := by
  obtain ⟨A, len, cap, rfl, h1, h2, h3⟩ := slice_cells ht hc (by omega) h
  obtain ⟨l, rfl, hp⟩ := choose_list (α := UInt8) (p := fun i b => ∃ g o, A = some ⟨g, o, none⟩ ∧ g < w.heap.size ∧ w.cell? ⟨g, o + i, none⟩ = some (.int .u8 b.toNat)) len (fun i hi => by
    obtain ⟨g, o, n, cs', y, hA, hg, hl, hcell, hy⟩ := h3 i hi
    obtain ⟨a, rfl, _, wa⟩ := DataW.trod_int he hy
    have hb := bounds_u8 wa
    have h4 := hcell 0 (by omega)
    refine ⟨UInt8.ofNat a.toNat, g, o, hA, hg, ?_⟩
    have e : ((UInt8.ofNat a.toNat).toNat : Int) = a := by
      rw [UInt8.toNat_ofNat', Nat.mod_eq_of_lt (by omega)]
      omega
    rw [e]
    simpa using h4)
  exact ⟨A, cap, l, rfl, by omega, hp⟩
theorem bools_cells {t e : TypeId} {fuel : Nat} {cs : List Value} {x : DataW H × List MemPlace} (ht : P.underlying t = some (.slice e)) (he : P.underlying e = some .bool) (hc : P.cellsOf e = 1) (h : DataW.trod enc P w base spare held fuel t cs = some x) :
    ∃ (A : Option Addr) (c : Nat) (l : List Bool), cs = [.slice A l.length c] ∧ l.length ≤ maxLen ∧ ∀ i b, l[i]? = some b → ∃ q, A = some q ∧ (q.add i).block < w.heap.size ∧ w.cell? (q.add i) = some (.bool b) := by
  obtain ⟨A, len, cap, rfl, h1, h2, h3⟩ := slice_cells ht hc (by omega) h
  obtain ⟨l, rfl, hp⟩ := choose_list (α := Bool) (p := fun i b => ∃ q, A = some q ∧ (q.add i).block < w.heap.size ∧ w.cell? (q.add i) = some (.bool b)) len (fun i hi => by
    obtain ⟨g, o, n, cs', y, hA, hg, hl, hcell, hy⟩ := h3 i hi
    obtain ⟨a, rfl, _⟩ := DataW.trod_bool he hy
    have h4 := hcell 0 (by omega)
    have e : (⟨g, o, none⟩ : Addr).add i = ⟨g, o + i, none⟩ := by unfold Addr.add; split <;> simp_all
    refine ⟨a, _, hA, ?_, ?_⟩
    · rw [e]; exact hg
    · rw [e]; simpa using h4)
  exact ⟨A, cap, l, rfl, by omega, hp⟩
/-- A parameter of one cell that is a slice: its cells are its value. -/
theorem slice_value {r : Reach} {b0 : Nat} {t e : TypeId} {v u : Value} (ht : P.underlying t = some (.slice e)) (hv : Value.okWide P w r b0 t v) (h : v.cells.toList = [u]) : v = u := by
  simp only [Value.okWide, ht, Cell.okWide] at hv
  unfold Cell.ok at hv
  rw [ht] at hv
  cases v <;> simp [Value.cells] at h hv ⊢
  · exact h
theorem param_bytes {r : Reach} {b0 : Nat} {t e : TypeId} {v : Value} {d : DataW H} {p : List MemPlace} (ht : P.underlying t = some (.slice e)) (he : P.underlying e = some (.int .u8)) (hc : P.cellsOf e = 1)
    (hv : Value.okWide P w r b0 t v) (h : DataW.Trod enc P w base spare held t v d p) : ∃ (A : Option Addr) (c : Nat) (l : List UInt8), v = .slice A l.length c ∧ l.length ≤ maxLen ∧ BytesIn w A l := by
  obtain ⟨fuel, hf⟩ := h
  obtain ⟨A, c, l, hcs, h1, h2⟩ := bytes_cells ht he hc hf
  exact ⟨A, c, l, slice_value ht hv hcs, h1, h2⟩
theorem param_bools {r : Reach} {b0 : Nat} {t e : TypeId} {v : Value} {d : DataW H} {p : List MemPlace} (ht : P.underlying t = some (.slice e)) (he : P.underlying e = some .bool) (hc : P.cellsOf e = 1)
    (hv : Value.okWide P w r b0 t v) (h : DataW.Trod enc P w base spare held t v d p) : ∃ (A : Option Addr) (c : Nat) (l : List Bool), v = .slice A l.length c ∧ l.length ≤ maxLen ∧ ∀ i b, l[i]? = some b → ∃ q, A = some q ∧ (q.add i).block < w.heap.size ∧ w.cell? (q.add i) = some (.bool b) := by
  obtain ⟨fuel, hf⟩ := h
  obtain ⟨A, c, l, hcs, h1, h2⟩ := bools_cells ht he hc hf
  exact ⟨A, c, l, slice_value ht hv hcs, h1, h2⟩
end
end Go.Cu
/- Slices of bytes that lie somewhere: of each the bytes that it has. -/
namespace Go.Cu
open Go Go.RowKit
/-- The bytes r lie behind A, in blocks of F. -/
def BytesF (F : Nat → Prop) (W : World) (A : Option Addr) (r : List UInt8) : Prop := ∀ (k : Nat) (b : UInt8), r[k]? = some b → ∃ g o, A = some ⟨g, o, none⟩ ∧ F g ∧ g < W.heap.size ∧ W.cell? ⟨g, o + k, none⟩ = some (.int .u8 b.toNat)
theorem BytesF.keep {F : Nat → Prop} {W W' : World} {A : Option Addr} {r : List UInt8} (h : BytesF F W A r) (hk : ∀ g, g < W.heap.size → F g → W'.heap[g]? = W.heap[g]?) : BytesF F W' A r := fun k b hb => by
  obtain ⟨g, o, e, hf, hg, hc⟩ := h k b hb
  have hh := hk g hg hf
  have hb' : W'.heap[(⟨g, o + k, none⟩ : Addr).block]? = W.heap[(⟨g, o + k, none⟩ : Addr).block]? := hh
  refine ⟨g, o, e, hf, ?_, ?_⟩
  · rcases Nat.lt_or_ge g W'.heap.size with h1 | h1
    · exact h1
    · rw [Array.getElem?_eq_none h1] at hh
      rw [Array.getElem?_eq_getElem hg] at hh
      cases hh
  · rw [World.cell?_of_block (a := ⟨g, o + k, none⟩) hb']
    exact hc
theorem BytesF.mono {F G : Nat → Prop} {W : World} {A : Option Addr} {r : List UInt8} (h : BytesF F W A r) (hm : ∀ g, g < W.heap.size → F g → G g) : BytesF G W A r := fun k b hb => by
  obtain ⟨g, o, e, hf, hg, hc⟩ := h k b hb
  exact ⟨g, o, e, hm g hg hf, hg, hc⟩
/-- Of each of the values the bytes. -/
def ValsIn (F : Nat → Prop) (W : World) (xs : List Value) (rs : List (List UInt8)) : Prop :=
  xs.length = rs.length ∧ ∀ (i : Nat) (r : List UInt8), rs[i]? = some r → ∃ A c, xs[i]? = some (.slice A r.length c) ∧ r.length ≤ c ∧ c ≤ maxLen ∧ BytesF F W A r
def Vals (xs : List Value) (rs : List (List UInt8)) : Atm :=
  ⟨fun F W => ValsIn F W xs rs, fun {F W W'} h hk => ⟨h.1, fun i r hi => by
    obtain ⟨A, c, e, h1, h2, hb⟩ := h.2 i r hi
    exact ⟨A, c, e, h1, h2, hb.keep hk⟩⟩, fun {F G W} h hm => ⟨h.1, fun i r hi => by
    obtain ⟨A, c, e, h1, h2, hb⟩ := h.2 i r hi
    exact ⟨A, c, e, h1, h2, hb.mono hm⟩⟩⟩
theorem ValsIn.join {F : Nat → Prop} {W : World} {xs ys : List Value} {rs ss : List (List UInt8)} (h : ValsIn F W xs rs) (h' : ValsIn F W ys ss) : ValsIn F W (xs ++ ys) (rs ++ ss) := by
  refine ⟨by rw [List.length_append, List.length_append, h.1, h'.1], fun i r hi => ?_⟩
  rcases Nat.lt_or_ge i rs.length with hl | hl
  · rw [List.getElem?_append_left hl] at hi
    rw [List.getElem?_append_left (by rw [h.1]; exact hl)]
    exact h.2 i r hi
  · rw [List.getElem?_append_right hl] at hi
    rw [List.getElem?_append_right (by rw [h.1]; exact hl), h.1]
    exact h'.2 _ r hi
section
variable {W0 W W' : World} {L : List Atm}
theorem St.vals_nil (h : St W0 L W) : St W0 (Vals [] [] :: L) W := h.push (Below.refl _ _) ⟨rfl, fun i r hi => by cases hi⟩
theorem St.vals_join {xs ys : List Value} {rs ss : List (List UInt8)} (h : St W0 (Vals xs rs :: Vals ys ss :: L) W) : St W0 (Vals (xs ++ ys) (rs ++ ss) :: L) W := by
  obtain ⟨hb, G, ha, H, hb', r⟩ := h
  refine ⟨hb, fun g => G g ∨ H g, ?_, r.mono fun g _ hf => ⟨hf.1.1, fun h => h.elim hf.1.2 hf.2⟩⟩
  exact ValsIn.join ((Vals xs rs).mono ha fun g _ hf => ⟨hf.1, .inl hf.2⟩) ((Vals ys ss).mono hb' fun g _ hf => ⟨hf.1.1, .inr hf.2⟩)
theorem St.vals {xs : List Value} {rs : List (List UInt8)} (h : St W0 (Vals xs rs :: L) W) : ValsIn (fun g => W0.heap.size ≤ g) W xs rs := by
  obtain ⟨F, ha, hf, _⟩ := h.first
  exact (Vals xs rs).mono ha fun g _ hg => (hf g hg).1
theorem BytesF.bytes {F : Nat → Prop} {A : Option Addr} {r : List UInt8} (h : BytesF F W A r) : BytesIn W A r := fun k b hb => by
  obtain ⟨g, o, e, _, hg, hc⟩ := h k b hb
  exact ⟨g, o, e, hg, hc⟩
/-- A row of bytes, cut: one slice. -/
theorem St.cut_row {v : Value} {e n s : Nat} {bs : List UInt8} {A : Option Addr} {c : Nat} (h : St W0 (Row v e 1 n (bs.map fun b => Value.int .u8 b.toNat) :: L) W) (hv : v = .slice A n c) (hs : s ≤ n) (h0 : 0 < n) :
    St W0 (Vals [.slice A s s] [bs.take s] :: L) W := by
  have hx := h.row.1
  simp only [List.length_map, Nat.mul_one] at hx
  obtain ⟨F, ha, hF, hr⟩ := h.first
  refine hr _ _ ?_ (Tch.refl _ _)
  refine ⟨rfl, fun i r hi => ?_⟩
  match i with
  | i + 1 => cases hi
  | 0 =>
  have hi' : bs.take s = r := by simpa using hi
  subst hi'
  have hl : (bs.take s).length = s := by rw [List.length_take]; omega
  rcases ha.2.2 with ⟨_, h1⟩ | ⟨g, cap, cur, e1, _, hh, hc, hm, _, hp⟩
  · omega
  · have e2 : A = some ⟨g, 0, none⟩ ∧ c = cap := by rw [hv] at e1; injection e1 with p1 p2 p3; exact ⟨p1, p3⟩
    refine ⟨A, s, by rw [hl]; rfl, by omega, by omega, fun k b hb => ?_⟩
    have hk : k < s := by
      rcases Nat.lt_or_ge k s with h | h
      · exact h
      · rw [List.getElem?_eq_none (by rw [hl]; exact h)] at hb; cases hb
    rw [List.getElem?_take_of_lt hk] at hb
    refine ⟨g, 0, e2.1, .inl (ha.1 g (by rw [e1]; rfl)), heap_lt hh, ?_⟩
    rw [cell_of_row W g (0 + k) _ _ _ hh, Nat.zero_add]
    have h3 : (cur.toList.take (n * 1))[k]? = some (Value.int .u8 b.toNat) := by rw [hp, List.getElem?_map, hb]; rfl
    rw [Nat.mul_one, List.getElem?_take_of_lt (by omega)] at h3
    simpa using h3
end
end Go.Cu
/- More orders of what lies side by side. -/
namespace Go.Cu
open Go Go.RowKit
section
variable {W0 W : World} {L : List Atm} {a b c d e f g : Atm}
theorem St.at5 (h : St W0 (a :: b :: c :: d :: e :: L) W) : St W0 (e :: a :: b :: c :: d :: L) W := h.perm (List.perm_middle (l₁ := [a, b, c, d]))
theorem St.back5 (h : St W0 (e :: a :: b :: c :: d :: L) W) : St W0 (a :: b :: c :: d :: e :: L) W := h.perm (List.perm_middle (l₁ := [a, b, c, d])).symm
theorem St.at6 (h : St W0 (a :: b :: c :: d :: e :: f :: L) W) : St W0 (f :: a :: b :: c :: d :: e :: L) W := h.perm (List.perm_middle (l₁ := [a, b, c, d, e]))
theorem St.back6 (h : St W0 (f :: a :: b :: c :: d :: e :: L) W) : St W0 (a :: b :: c :: d :: e :: f :: L) W := h.perm (List.perm_middle (l₁ := [a, b, c, d, e])).symm
theorem St.at7 (h : St W0 (a :: b :: c :: d :: e :: f :: g :: L) W) : St W0 (g :: a :: b :: c :: d :: e :: f :: L) W := h.perm (List.perm_middle (l₁ := [a, b, c, d, e, f]))
theorem St.back7 (h : St W0 (g :: a :: b :: c :: d :: e :: f :: L) W) : St W0 (a :: b :: c :: d :: e :: f :: g :: L) W := h.perm (List.perm_middle (l₁ := [a, b, c, d, e, f])).symm
theorem St.rot2 (h : St W0 (a :: b :: c :: d :: L) W) : St W0 (c :: d :: a :: b :: L) W := h.at3.at4.at2
theorem St.drop4 (h : St W0 (a :: b :: c :: d :: L) W) : St W0 (a :: b :: c :: L) W := h.at4.drop
theorem St.drop5 (h : St W0 (a :: b :: c :: d :: e :: L) W) : St W0 (a :: b :: c :: d :: L) W := h.at5.drop
/-- Things that lie in one list may be taken apart or put together at will: only the ones that are wanted. -/
theorem St.sub {M : List Atm} (h : St W0 (M ++ L) W) : St W0 L W := by
  induction M with
  | nil => exact h
  | cons a M ih => exact ih h.drop
end
end Go.Cu
/- A disk, plainly: what its blocks have now, what lasts, what was written since. No program. -/
namespace Go.Cu
/-- A block's bytes. -/
abbrev Blk8 := List UInt8
def zeroB : Blk8 := List.replicate 128 0
theorem zeroB_len : zeroB.length = 128 := List.length_replicate

structure DS where
  now : List Blk8
  last : List Blk8
  wait : List (Nat × Blk8)
  writes : Int
  armed : Int
  off : Bool

def DS.new (n : Nat) : DS := ⟨List.replicate n zeroB, List.replicate n zeroB, [], 0, 0, false⟩
def DS.may (S : DS) : Int := if S.off then 13 else 0
/-- Is place i answered? -/
def DS.at_ (S : DS) (i : Int) : Int := if S.off then 13 else if i < 0 ∨ (S.now.length : Int) ≤ i then 1 else 0
def DS.put (S : DS) (i : Nat) (b : Blk8) : DS := { S with now := S.now.set i b, wait := S.wait ++ [(i, b)], writes := S.writes + 1 }
/-- Behind a write: the power may go off. -/
def DS.tick (S : DS) : DS × Int :=
  if S.armed = 0 then (S, 0) else if 0 < S.armed - 1 then ({ S with armed := S.armed - 1 }, 0) else ({ S with armed := S.armed - 1, off := true }, 13)
def DS.write (S : DS) (i : Int) (b : Blk8) : DS × Int := if S.at_ i ≠ 0 then (S, S.at_ i) else (S.put i.toNat b).tick
/-- What lasts behind k0, k0 + 1, .. of the writes, those that are kept. -/
def lastOf (kept : Nat → Bool) : Nat → List (Nat × Blk8) → List Blk8 → List Blk8
  | _, [], L => L
  | k, p :: l, L => lastOf kept (k + 1) l (if kept k then L.set p.1 p.2 else L)
/-- What is there behind a settling: of each place that was written what lasts. -/
def nowOf (last : List Blk8) : List (Nat × Blk8) → List Blk8 → List Blk8
  | [], N => N
  | p :: l, N => nowOf last l (N.set p.1 (last.getD p.1 zeroB))
def DS.settle (S : DS) (kept : Nat → Bool) : DS :=
  let L := lastOf kept 0 S.wait S.last
  { S with last := L, now := nowOf L S.wait S.now, wait := [] }
def DS.sync (S : DS) : DS × Int := if S.off then (S, 13) else (S.settle fun _ => true, 0)
def DS.crash (S : DS) (keep : List Bool) : DS := { S.settle (fun k => keep.getD k false) with off := false, armed := 0 }
def DS.arm (S : DS) (n : Int) : DS := { S with armed := max n 0 }

/-- What holds of every disk: no more than N writes wait or were made. -/
structure DS.Ok (S : DS) (N : Nat) : Prop where
  len : S.last.length = S.now.length
  big : S.now.length ≤ 8192
  now : ∀ b ∈ S.now, b.length = 128
  last : ∀ b ∈ S.last, b.length = 128
  wait : ∀ p ∈ S.wait, p.1 < S.now.length ∧ p.2.length = 128
  few : S.wait.length ≤ N
  writes0 : 0 ≤ S.writes
  writes : S.writes ≤ N
  armed0 : 0 ≤ S.armed
  armed : S.armed ≤ 9223372036854775807

theorem lastOf_len (kept : Nat → Bool) : ∀ (l : List (Nat × Blk8)) (k : Nat) (L : List Blk8), (lastOf kept k l L).length = L.length
  | [], _, _ => rfl
  | p :: l, k, L => by
    rw [lastOf, lastOf_len kept l]
    split <;> simp
theorem nowOf_len (last : List Blk8) : ∀ (l : List (Nat × Blk8)) (N : List Blk8), (nowOf last l N).length = N.length
  | [], _ => rfl
  | p :: l, N => by rw [nowOf, nowOf_len last l, List.length_set]
theorem full_set {L : List Blk8} (h : ∀ b ∈ L, b.length = 128) (i : Nat) {b : Blk8} (hb : b.length = 128) : ∀ x ∈ L.set i b, x.length = 128 := by
  intro x hx
  rcases List.mem_or_eq_of_mem_set hx with h1 | h1
  · exact h x h1
  · subst h1; exact hb
theorem full_getD {L : List Blk8} (h : ∀ b ∈ L, b.length = 128) (i : Nat) : (L.getD i zeroB).length = 128 := by
  rw [List.getD_eq_getElem?_getD]
  cases hi : L[i]? with
  | none => exact zeroB_len
  | some b => exact h b (List.mem_of_getElem? hi)
theorem lastOf_full (kept : Nat → Bool) : ∀ (l : List (Nat × Blk8)) (k : Nat) (L : List Blk8), (∀ p ∈ l, p.2.length = 128) → (∀ b ∈ L, b.length = 128) → ∀ b ∈ lastOf kept k l L, b.length = 128
  | [], _, _, _, hL => hL
  | p :: l, k, L, hl, hL => by
    rw [lastOf]
    refine lastOf_full kept l (k + 1) _ (fun q hq => hl q (by simp [hq])) ?_
    split
    · exact full_set hL _ (hl p (by simp))
    · exact hL
theorem nowOf_full (last : List Blk8) (hlast : ∀ b ∈ last, b.length = 128) : ∀ (l : List (Nat × Blk8)) (N : List Blk8), (∀ b ∈ N, b.length = 128) → ∀ b ∈ nowOf last l N, b.length = 128
  | [], _, hN => hN
  | p :: l, N, hN => by
    rw [nowOf]
    exact nowOf_full last hlast l _ (full_set hN _ (full_getD hlast _))

theorem DS.Ok.mono {S : DS} {N M : Nat} (h : S.Ok N) (hm : N ≤ M) : S.Ok M :=
  ⟨h.len, h.big, h.now, h.last, h.wait, Nat.le_trans h.few hm, h.writes0, by have := h.writes; omega, h.armed0, h.armed⟩
theorem DS.Ok.new {n : Nat} (hn : n ≤ 8192) : (DS.new n).Ok 0 :=
  ⟨by simp [DS.new], by simpa [DS.new] using hn, fun b hb => by rw [List.eq_of_mem_replicate hb]; exact zeroB_len, fun b hb => by rw [List.eq_of_mem_replicate hb]; exact zeroB_len, fun p hp => by simp [DS.new] at hp, by simp [DS.new],
    by simp [DS.new], by simp [DS.new], by simp [DS.new], by simp [DS.new]⟩
theorem DS.Ok.settle {S : DS} {N : Nat} (h : S.Ok N) (kept : Nat → Bool) : (S.settle kept).Ok N := by
  have hl := lastOf_full kept S.wait 0 S.last (fun p hp => (h.wait p hp).2) h.last
  refine ⟨?_, ?_, ?_, hl, ?_, ?_, h.writes0, h.writes, h.armed0, h.armed⟩
  · simp only [DS.settle, lastOf_len, nowOf_len]; exact h.len
  · simp only [DS.settle, nowOf_len]; exact h.big
  · exact nowOf_full _ hl _ _ h.now
  · intro p hp; simp [DS.settle] at hp
  · simp [DS.settle]
theorem DS.Ok.put {S : DS} {N : Nat} (h : S.Ok N) {i : Nat} (hi : i < S.now.length) {b : Blk8} (hb : b.length = 128) : (S.put i b).Ok (N + 1) := by
  refine ⟨by simpa [DS.put] using h.len, by simpa [DS.put] using h.big, full_set h.now _ hb, h.last, ?_, ?_, ?_, ?_, h.armed0, h.armed⟩
  · intro p hp
    simp only [DS.put, List.mem_append, List.mem_singleton] at hp
    rcases hp with hp | rfl
    · simpa [DS.put] using h.wait p hp
    · exact ⟨by simpa [DS.put] using hi, hb⟩
  · simp only [DS.put, List.length_append, List.length_singleton]; have := h.few; omega
  · have := h.writes0; simp only [DS.put]; omega
  · have := h.writes; simp only [DS.put]; omega
theorem DS.Ok.tick {S : DS} {N : Nat} (h : S.Ok N) : S.tick.1.Ok N := by
  have h0 := h.armed0
  have h1 := h.armed
  unfold DS.tick
  split
  · exact h
  · split
    · exact ⟨h.len, h.big, h.now, h.last, h.wait, h.few, h.writes0, h.writes, by show 0 ≤ S.armed - 1; omega, by show S.armed - 1 ≤ _; omega⟩
    · rename_i a b
      exact ⟨h.len, h.big, h.now, h.last, h.wait, h.few, h.writes0, h.writes, by show 0 ≤ S.armed - 1; omega, by show S.armed - 1 ≤ _; omega⟩
theorem DS.put_tick0 {S : DS} {n : Nat} {b : Blk8} (h : S.armed = 0) : (S.put n b).tick = (S.put n b, 0) := if_pos h
theorem DS.put_tick1 {S : DS} {n : Nat} {b : Blk8} (h : ¬ S.armed = 0) (h1 : 0 < S.armed - 1) : (S.put n b).tick = ({ S.put n b with armed := S.armed - 1 }, 0) := (if_neg h).trans (if_pos h1)
theorem DS.put_tick2 {S : DS} {n : Nat} {b : Blk8} (h : ¬ S.armed = 0) (h1 : ¬ 0 < S.armed - 1) : (S.put n b).tick = ({ S.put n b with armed := S.armed - 1, off := true }, 13) := (if_neg h).trans (if_neg h1)
theorem DS.at_zero {S : DS} {i : Int} (h : S.at_ i = 0) : S.off = false ∧ 0 ≤ i ∧ i < S.now.length := by
  unfold DS.at_ at h
  cases ho : S.off
  · rw [ho] at h
    simp only [Bool.false_eq_true, if_false] at h
    split at h
    · cases h
    · exact ⟨rfl, by omega, by omega⟩
  · rw [ho] at h; cases h
theorem DS.Ok.write {S : DS} {N : Nat} (h : S.Ok N) (i : Int) {b : Blk8} (hb : b.length = 128) : (S.write i b).1.Ok (N + 1) := by
  unfold DS.write
  split
  · exact h.mono (Nat.le_succ _)
  · rename_i h0
    obtain ⟨_, hz1, hz2⟩ := DS.at_zero (Decidable.not_not.1 h0)
    exact (h.put (by omega) hb).tick
theorem DS.Ok.sync {S : DS} {N : Nat} (h : S.Ok N) : S.sync.1.Ok N := by
  unfold DS.sync
  split
  · exact h
  · exact h.settle _
theorem DS.Ok.crash {S : DS} {N : Nat} (h : S.Ok N) (keep : List Bool) : (S.crash keep).Ok N := by
  have := h.settle fun k => keep.getD k false
  exact ⟨this.len, this.big, this.now, this.last, this.wait, this.few, this.writes0, this.writes, by simp [DS.crash], by simp [DS.crash]⟩
theorem DS.Ok.arm {S : DS} {N : Nat} (h : S.Ok N) {n : Int} (hn : n ≤ 9223372036854775807) : (S.arm n).Ok N :=
  ⟨h.len, h.big, h.now, h.last, h.wait, h.few, h.writes0, h.writes, by simp only [DS.arm]; omega, by simp only [DS.arm]; omega⟩
end Go.Cu
/- A region that draws its order: the first n operations quiet in a class of worlds, the rest in one forced order from whatever world of the class. -/
namespace Go.Cu
open Go Go.RowKit
section
variable {P : Program} {ops : Array Oper} {md : Region.Mode} {C : World → Prop}

/-- Whatever order of the head, up to a condition on what is listed. -/
def headQ (P : Program) (md : Region.Mode) (ops : Array Oper) (C : World → Prop) (n : Nat) (L : Array Bool → Act → Prop) : Nat → Array Bool → Act → Prop
  | 0, listed, a => L listed a
  | f + 1, listed, a => Region.ready md ops listed ≠ [] ∧ ∀ i ∈ Region.ready md ops listed, i < n ∧ qOp P ops C i (headQ P md ops C n L f (listed.setIfInBounds i true)) a

theorem wpAny_of_headQ {n g : Nat} {L : Array Bool → Act → Prop} {Q' : Exit → Act → World → Prop} (hL : ∀ listed a w, C w → L listed a → wpAny P md ops Q' g listed a w) :
    ∀ (f : Nat) (listed : Array Bool) (a : Act) (w : World), C w → headQ P md ops C n L f listed a → wpAny P md ops Q' (f + g) listed a w
  | 0, _, _, _, hw, h => by rw [Nat.zero_add]; exact hL _ _ _ hw h
  | f + 1, listed, a, w, hw, h => by
    rw [show f + 1 + g = (f + g) + 1 by omega]
    exact ⟨fun h0 => absurd h0 h.1, fun i hi => wpOp_of_qOp hw (fun a' w' hw' h' => wpAny_of_headQ hL f _ a' w' hw' h') (h.2 i hi).2⟩

theorem headQ_first {n i : Nat} {oi : Oper} {v : Value} {L : Array Bool → Act → Prop} (hi : ops[i]? = some oi) (hsel : ∀ (j : Nat) (o : Oper) cs b, ops[j]? = some o → o.op ≠ .select cs b)
    (hs : Region.sinkB md ops n = true) (hc : Region.chainB md ops n = true) (hn : n < ops.size) (hin : i < n)
    (hdone : ∀ listed a, L listed a → ∀ j ∈ Region.ready md ops listed, n ≤ j) :
    ∀ (f : Nat) (listed : Array Bool) (a : Act), HeadInv md ops n listed →
      (∀ j oj, ops[j]? = some oj → j ≠ i → listed.getD j true = false → (∀ e ∈ oj.after, Region.binds md e = true → e.on ≠ i) → oi.apart ops oj = true) →
      i ∈ Region.ready md ops listed → YieldsIn P ops C oi v a →
      headQ P md ops C n L f (listed.setIfInBounds i true) (a.put oi.dst v) → headQ P md ops C n L (f + 1) listed a := by
  intro f
  induction f with
  | zero =>
    intro listed a inv _ hr hy H
    have hun := (mem_ready.1 hr).1
    refine ⟨fun h => (by rw [h] at hr; cases hr), fun j hj => ?_⟩
    have hjn : j < n := by
      rcases Nat.lt_or_ge j n with h | h
      · exact h
      · exact absurd hj (tail_waits hs hc hn inv _ i rfl hin hun j h)
    refine ⟨hjn, ?_⟩
    by_cases hji : j = i
    · subst hji; exact hy.qOp hi H
    · have := hdone _ _ H j (ready_mono hj hji)
      omega
  | succ f ih =>
    intro listed a inv hfree hr hy H
    have hun := (mem_ready.1 hr).1
    refine ⟨fun h => (by rw [h] at hr; cases hr), fun j hj => ?_⟩
    have hjn : j < n := by
      rcases Nat.lt_or_ge j n with h | h
      · exact h
      · exact absurd hj (tail_waits hs hc hn inv _ i rfl hin hun j h)
    refine ⟨hjn, ?_⟩
    by_cases hji : j = i
    · subst hji; exact hy.qOp hi H
    · have h1 := (H.2 j (ready_mono hj hji)).2
      obtain ⟨hjun, oj, hoj, hall⟩ := mem_ready.1 hj
      have hnot : ∀ e ∈ oj.after, Region.binds md e = true → e.on ≠ i := fun e he hb heq => by
        have h1 := hall e he hb
        rw [heq, getD_both hun] at h1
        cases h1
      have h2 := qOp_put hoj (hfree j oj hoj hji hjun hnot) (fun cs b => hsel i oi cs b hi) (fun cs b => hsel j oj cs b hoj) hy h1
      have hfree' : ∀ k ok, ops[k]? = some ok → k ≠ i → (listed.setIfInBounds j true).getD k true = false →
          (∀ e ∈ ok.after, Region.binds md e = true → e.on ≠ i) → oi.apart ops ok = true := fun k ok hk hki hun hno => by
        refine hfree k ok hk hki ?_ hno
        by_cases hjk : j = k
        · subst hjk; exact hjun
        · rw [getD_set_ne true hjk] at hun; exact hun
      refine qOp_mono (fun a' h3 => ih (listed.setIfInBounds j true) a' (inv.set hj hjn) hfree' (ready_mono hr (Ne.symm hji)) h3.1 ?_) h2
      rw [Array.setIfInBounds_comm _ _ hji]
      exact h3.2

theorem headQ_lex {n g : Nat} {Lq : Act → Prop} (hsel : Region.noSelect ops = true) (hs : Region.sinkB md ops n = true) (hc : Region.chainB md ops n = true) (hn : n < ops.size) :
    ∀ (l : List Oper) (k : Nat) (listed : Array Bool) (a : Act), (∀ j, j < l.length → l[j]? = ops[k + j]?) → k + l.length = n → HeadInv md ops n listed →
    Region.lexHead md ops g l.length k listed = true → wpQuiet P ops C Lq l a →
    headQ P md ops C n (fun listed' a' => Region.seqB md ops g n listed' = true ∧ Lq a') l.length listed a
  | [], k, _, _, _, hk, _, hB, h => by
    have : k = n := by simpa using hk
    subst this
    exact ⟨by simpa [Region.lexHead] using hB, h⟩
  | o :: l, k, listed, a, hl, hk, inv, hB, h => by
    have h0 : ops[k]? = some o := by simpa using (hl 0 (by simp)).symm
    simp only [List.length_cons, Region.lexHead, Bool.and_eq_true] at hB
    obtain ⟨⟨hr, hf⟩, hB'⟩ := hB
    have hkn : k < n := by simp only [List.length_cons] at hk; omega
    have hr' : k ∈ Region.ready md ops listed := by simpa using hr
    have hst : qOp P ops C k (wpQuiet P ops C Lq l) a := by unfold qOp; simp only [h0]; exact h
    obtain ⟨v, hy, hK⟩ := yieldsIn_of_qOp h0 hst
    exact headQ_first h0 (Region.noSelect_spec hsel) hs hc hn hkn (fun listed' a' hL => seqB_ready hL.1) l.length listed a inv (Region.free_spec h0 hf) hr' hy
      (headQ_lex hsel hs hc hn l (k + 1) _ _ (fun j hj => by have := hl (j + 1) (by simp; omega); simpa [Nat.add_assoc, Nat.add_comm 1 j] using this) (by simp only [List.length_cons] at hk; omega) (inv.set hr' hkn) hB' hK)

/-- The head quiet in the class, the tail in its one order. -/
theorem wp_region_class_tail {id : Nat} {Q : Exit → Act → World → Prop} {a : Act} {w : World} {l : List Oper} (n : Nat) (C : World → Prop) (hm : P.follows .mixedOrders = true) (hB : Region.lexTailB .any l.toArray n = true) (hC : C w.drew)
    (h : wpQuiet P l.toArray C (fun a' => ∀ w', C w' → wpList P l.toArray Q (l.drop n) a' w') (l.take n) a) : (Code.region id l.toArray true).wp P Q a w := by
  simp only [Region.lexTailB, Bool.and_eq_true, decide_eq_true_eq] at hB
  obtain ⟨⟨⟨⟨hsel, hn⟩, hs⟩, hc⟩, hlex⟩ := hB
  have hn' : n < l.length := by simpa using hn
  have htl : (l.take n).length = n := by simp; omega
  have hdl : (l.drop n).length = l.toArray.size - n := by simp
  have inv0 : HeadInv .any l.toArray n (Array.replicate l.toArray.size false) :=
    ⟨by simp, fun j oj _ hl => (by rw [getD_replicate_false] at hl; cases hl), fun t _ ht => getD_in (by simpa using ht) (getD_replicate_false _ _)⟩
  have H := headQ_lex (md := .any) (g := l.toArray.size - n) hsel hs hc hn (l.take n) 0 _ a (fun j hj => by
    have hj' : j < n := by rw [htl] at hj; exact hj
    simp [hj']) (by simpa using htl) inv0 (by rw [htl]; exact hlex) h
  refine wp_region_any hm ?_
  have := wpAny_of_headQ (Q' := Q) (g := l.toArray.size - n) (fun listed a' w' hw' hL => by
    have := wpAny_of_seq (md := .any) (Q' := Q) (l.drop n) n listed a' w' (fun j => by simp [List.getElem?_drop]) (by rw [hdl]; exact hL.1) (hL.2 w' hw')
    rwa [hdl] at this) _ _ _ _ hC H
  rw [htl, show n + (l.toArray.size - n) = l.toArray.size by omega] at this
  exact this
end
end Go.Cu
/- A disk in memory; what it answers that only reads it. -/
namespace Go.Proofs.Ythmchbdhikakhaa
open Go.RowKit Go.Cu

/-- The disk S lies in memory: its struct is block p; all its blocks are of F. -/
structure DiskAt (W : World) (p : Nat) (F : Nat → Prop) (S : DS) (pn pl : Nat) (wv : Value) : Prop where
  op : F p
  on : F pn
  ol : F pl
  ow : ∀ g, wv.ownBlock = some g → F g
  ne : pn ≠ pl
  box : W.heap[p]? = some (.cells #[.slice (some ⟨pn, 0, none⟩) S.now.length S.now.length, .slice (some ⟨pl, 0, none⟩) S.now.length S.now.length, wv, .int .i64 S.writes, .int .i64 S.armed, .bool S.off] 104 (0, 0))
  now : W.heap[pn]? = some (.cells (flat S.now) 33 (0, 0))
  last : W.heap[pl]? = some (.cells (flat S.last) 33 (0, 0))
  wait : W.ownsRow 0 106 129 wv S.wait.length (waitL S.wait)
def DiskIn (W : World) (p : Nat) (F : Nat → Prop) (S : DS) : Prop := ∃ pn pl wv, DiskAt W p F S pn pl wv

theorem lt_of_heap {W : World} {g : Nat} {o : Obj} (h : W.heap[g]? = some o) : g < W.heap.size := by
  rcases Nat.lt_or_ge g W.heap.size with h1 | h1
  · exact h1
  · rw [Array.getElem?_eq_none h1] at h; cases h
theorem own_lt {W : World} {b e s n : Nat} {v : Value} {xs : List Value} (h : W.ownsRow b e s v n xs) {g : Nat} (hg : v.ownBlock = some g) : g < W.heap.size := by
  rcases h.2 with ⟨rfl, _⟩ | ⟨g', c, cur, rfl, _, hh, _⟩
  · simp [Value.ownBlock] at hg
  · have : g' = g := by simpa [Value.ownBlock] using hg
    subst this
    exact lt_of_heap hh
theorem own_keep {W W' : World} {b e s n : Nat} {v : Value} {xs : List Value} (h : W.ownsRow b e s v n xs) (hk : ∀ g, v.ownBlock = some g → W'.heap[g]? = W.heap[g]?) : W'.ownsRow b e s v n xs := by
  refine ⟨h.1, ?_⟩
  rcases h.2 with h' | ⟨g, c, cur, rfl, hb, hh, r⟩
  · exact .inl h'
  · exact .inr ⟨g, c, cur, rfl, hb, (hk g (by simp [Value.ownBlock])).trans hh, r⟩

section
variable {W W' : World} {p : Nat} {F G : Nat → Prop} {S : DS} {pn pl : Nat} {wv : Value}
theorem DiskAt.keep (h : DiskAt W p F S pn pl wv) (hk : ∀ g, g < W.heap.size → F g → W'.heap[g]? = W.heap[g]?) : DiskAt W' p F S pn pl wv :=
  ⟨h.op, h.on, h.ol, h.ow, h.ne, (hk p (lt_of_heap h.box) h.op).trans h.box, (hk pn (lt_of_heap h.now) h.on).trans h.now, (hk pl (lt_of_heap h.last) h.ol).trans h.last,
    own_keep h.wait fun g hg => hk g (own_lt h.wait hg) (h.ow g hg)⟩
theorem heap_ne {g g' : Nat} {t t' : TypeId} {c c' : Array Value} {fr fr' : Nat × Nat} (h : W.heap[g]? = some (.cells c t fr)) (h' : W.heap[g']? = some (.cells c' t' fr')) (hne : t ≠ t') : g ≠ g' := by
  rintro rfl
  rw [h] at h'
  injection h' with h'
  injection h' with _ ht
  exact hne ht
theorem own_ne {b e s n : Nat} {v : Value} {xs : List Value} (h : W.ownsRow b e s v n xs) {g : Nat} {t : TypeId} {c : Array Value} {fr : Nat × Nat} (hg : W.heap[g]? = some (.cells c t fr)) (hne : e ≠ t) : v.ownBlock ≠ some g := by
  rcases h.2 with ⟨rfl, _⟩ | ⟨g', cap, cur, rfl, _, hh, _⟩
  · simp [Value.ownBlock]
  · intro he
    have : g' = g := by simpa [Value.ownBlock] using he
    subst this
    exact heap_ne hh hg hne rfl
theorem DiskAt.below (h : DiskAt W p F S pn pl wv) (hb : Below W.heap.size W W') : DiskAt W' p F S pn pl wv := h.keep fun g hg _ => hb.block g hg
theorem DiskIn.keep (h : DiskIn W p F S) (hk : ∀ g, g < W.heap.size → F g → W'.heap[g]? = W.heap[g]?) : DiskIn W' p F S := by
  obtain ⟨pn, pl, wv, h⟩ := h
  exact ⟨pn, pl, wv, h.keep hk⟩
theorem DiskIn.below (h : DiskIn W p F S) (hb : Below W.heap.size W W') : DiskIn W' p F S := h.keep fun g hg _ => hb.block g hg
theorem DiskIn.tch (h : DiskIn W p F S) (ht : Tch G W W') (hd : ∀ g, g < W.heap.size → F g → ¬ G g) : DiskIn W' p F S := h.keep fun g hg hf => ht.block g hg (hd g hg hf)
theorem DiskIn.mono (h : DiskIn W p F S) (hm : ∀ g, g < W.heap.size → F g → G g) : DiskIn W p G S := by
  obtain ⟨pn, pl, wv, h⟩ := h
  exact ⟨pn, pl, wv, hm p (lt_of_heap h.box) h.op, hm pn (lt_of_heap h.now) h.on, hm pl (lt_of_heap h.last) h.ol, fun g hg => hm g (own_lt h.wait hg) (h.ow g hg), h.ne, h.box, h.now, h.last, h.wait⟩
theorem DiskIn.lt (h : DiskIn W p F S) : p < W.heap.size := by
  obtain ⟨pn, pl, wv, h⟩ := h
  exact lt_of_heap h.box
theorem DiskIn.cells (h : DiskIn W p F S) : ∃ pn pl wv, W.cell? ⟨p, 0, none⟩ = some (.slice (some ⟨pn, 0, none⟩) S.now.length S.now.length) ∧ W.cell? ⟨p, 2, none⟩ = some wv ∧ W.cell? ⟨p, 3, none⟩ = some (.int .i64 S.writes) ∧
    W.cell? ⟨p, 4, none⟩ = some (.int .i64 S.armed) ∧ W.cell? ⟨p, 5, none⟩ = some (.bool S.off) ∧ DiskAt W p F S pn pl wv := by
  obtain ⟨pn, pl, wv, h⟩ := h
  refine ⟨pn, pl, wv, ?_, ?_, ?_, ?_, ?_, h⟩ <;> rw [cell_of_row W p _ _ _ _ h.box] <;> rfl
end

set_option maxHeartbeats 400000 in
theorem may_nil (w : World) : Calls Try.prog 58 #[.pointer none] w fun e w' => e = .returned (.int .i64 1) ∧ w = w' := by
  go_enter Try.func58, Try.ntmps58
  go_wp2
  go_ret
  exact ⟨rfl, rfl⟩
set_option maxHeartbeats 400000 in
theorem may_any {p : Nat} {F : Nat → Prop} {S : DS} {w : World} (h : DiskIn w p F S) : Calls Try.prog 58 #[.pointer (some ⟨p, 0, none⟩)] w fun e w' => e = .returned (.int .i64 S.may) ∧ w = w' := by
  obtain ⟨pn, pl, wv, _, _, _, _, h5, _⟩ := h.cells
  unfold DS.may
  cases ho : S.off
  all_goals
    rw [ho] at h5
    clear ho h
    go_enter Try.func58, Try.ntmps58
    go_wp2
    go_ret
    exact ⟨rfl, rfl⟩
set_option maxHeartbeats 400000 in
theorem at_nil (i : Int) (w : World) : Calls Try.prog 57 #[.pointer none, .int .i64 i] w fun e w' => e = .returned (.int .i64 1) ∧ w = w' := by
  go_enter Try.func57, Try.ntmps57
  go_wp2_with (go_at_call 58; refine (may_nil _).mono ?_; rintro e w' ⟨rfl, rfl⟩)
  go_ret
  exact ⟨rfl, rfl⟩
set_option maxHeartbeats 400000 in
theorem at_any {p : Nat} {F : Nat → Prop} {S : DS} {w : World} {N : Nat} (h : DiskIn w p F S) (hok : S.Ok N) (i : Int) : Calls Try.prog 57 #[.pointer (some ⟨p, 0, none⟩), .int .i64 i] w fun e w' => e = .returned (.int .i64 (S.at_ i)) ∧ w = w' := by
  have hm := hid (may_any h)
  have hb := hok.big
  obtain ⟨pn, pl, wv, h0, _, _, _, _, _⟩ := h.cells
  clear h hok
  unfold DS.at_
  cases ho : S.off
  · have hmay : S.may = 0 := by simp [DS.may, ho]
    rw [hmay] at hm
    clear hmay ho
    simp only [Bool.false_eq_true, if_false]
    by_cases h1 : i < 0
    · rw [if_pos (.inl h1)]
      go_enter Try.func57, Try.ntmps57
      go_wp2_with (go_at_call 58; refine hm.out.mono ?_; rintro e w' ⟨rfl, rfl⟩)
      go_ret
      exact ⟨rfl, rfl⟩
    · by_cases h2 : (S.now.length : Int) ≤ i
      · rw [if_pos (.inr h2)]
        go_enter Try.func57, Try.ntmps57
        go_wp2_with (go_at_call 58; refine hm.out.mono ?_; rintro e w' ⟨rfl, rfl⟩)
        go_ret
        exact ⟨rfl, rfl⟩
      · rw [if_neg (by omega)]
        go_enter Try.func57, Try.ntmps57
        go_wp2_with (go_at_call 58; refine hm.out.mono ?_; rintro e w' ⟨rfl, rfl⟩)
        go_ret
        exact ⟨rfl, rfl⟩
  · have hmay : S.may = 13 := by simp [DS.may, ho]
    rw [hmay] at hm
    clear hmay ho
    simp only [if_true]
    go_enter Try.func57, Try.ntmps57
    go_wp2_with (go_at_call 58; refine hm.out.mono ?_; rintro e w' ⟨rfl, rfl⟩)
    go_ret
    exact ⟨rfl, rfl⟩
end Go.Proofs.Ythmchbdhikakhaa
/- Keys of 256 bits, plainly: bits, the count of bits that two keys begin with alike, the order. No program. -/
namespace Go.Cu

/-- The i-th bit, from the highest of the first byte on. -/
def bitN (l : List UInt8) (i : Nat) : Nat := (l.getD (i / 8) 0).toNat / 2 ^ (7 - i % 8) % 2
theorem bitN_lt (l : List UInt8) (i : Nat) : bitN l i < 2 := Nat.mod_lt _ (by decide)

/-- c is how many bits two keys begin with alike. -/
def IsCm (k l : List UInt8) (c : Nat) : Prop := c ≤ 256 ∧ (∀ j, j < c → bitN k j = bitN l j) ∧ (c < 256 → bitN k c ≠ bitN l c)
def cm (k l : List UInt8) : Nat := ((List.range 256).find? fun i => bitN k i != bitN l i).getD 256

theorem cm_is (k l : List UInt8) : IsCm k l (cm k l) := by
  unfold cm
  cases h : (List.range 256).find? fun i => bitN k i != bitN l i with
  | none =>
    rw [List.find?_eq_none] at h
    refine ⟨Nat.le_refl _, fun j hj => ?_, fun hc => absurd hc (by simp)⟩
    have := h j (List.mem_range.2 (by simpa using hj))
    simpa using this
  | some i =>
    rw [List.find?_range_eq_some] at h
    obtain ⟨hp, hm, hb⟩ := h
    have hi : i < 256 := by simpa using hm
    refine ⟨Nat.le_of_lt hi, fun j hj => ?_, fun _ => by simpa using hp⟩
    have := hb j (by simpa using hj)
    simpa using this

theorem IsCm.unique {k l : List UInt8} {c d : Nat} (h : IsCm k l c) (h' : IsCm k l d) : c = d := by
  rcases Nat.lt_trichotomy c d with hlt | he | hlt
  · exact absurd (h'.2.1 c hlt) (h.2.2 (Nat.lt_of_lt_of_le hlt h'.1))
  · exact he
  · exact absurd (h.2.1 d hlt) (h'.2.2 (Nat.lt_of_lt_of_le hlt h.1))
theorem IsCm.eq {k l : List UInt8} {c : Nat} (h : IsCm k l c) : c = cm k l := h.unique (cm_is k l)
theorem cm_le (k l : List UInt8) : cm k l ≤ 256 := (cm_is k l).1
theorem cm_self (k : List UInt8) : cm k k = 256 := ((show IsCm k k 256 from ⟨Nat.le_refl _, fun _ _ => rfl, fun h => absurd h (by decide)⟩).eq).symm
theorem cm_symm (k l : List UInt8) : cm k l = cm l k := by
  obtain ⟨h1, h2, h3⟩ := cm_is k l
  exact IsCm.eq ⟨h1, fun j hj => (h2 j hj).symm, fun h e => h3 h e.symm⟩
/-- Of three keys the least count stands twice. -/
theorem cm_three (a b c : List UInt8) : min (cm a b) (cm b c) ≤ cm a c := by
  obtain ⟨h1, h2, h3⟩ := cm_is a c
  rcases Nat.lt_or_ge (cm a c) (min (cm a b) (cm b c)) with h | h
  · have hl1 : cm a c < cm a b := Nat.lt_of_lt_of_le h (Nat.min_le_left _ _)
    have hl2 : cm a c < cm b c := Nat.lt_of_lt_of_le h (Nat.min_le_right _ _)
    have e1 := (cm_is a b).2.1 _ hl1
    have e2 := (cm_is b c).2.1 _ hl2
    exact absurd (e1.trans e2) (h3 (Nat.lt_of_lt_of_le hl1 (cm_le a b)))
  · exact h

theorem byte_of_bits (a b : Nat) (ha : a < 256) (hb : b < 256) (h : ∀ p, p < 8 → a / 2 ^ (7 - p) % 2 = b / 2 ^ (7 - p) % 2) : a = b := by
  have h0 := h 0 (by decide); have h1 := h 1 (by decide); have h2 := h 2 (by decide); have h3 := h 3 (by decide)
  have h4 := h 4 (by decide); have h5 := h 5 (by decide); have h6 := h 6 (by decide); have h7 := h 7 (by decide)
  simp only [Nat.sub_zero, Nat.reducePow, Nat.reduceSub] at h0 h1 h2 h3 h4 h5 h6 h7
  omega

theorem bitN_byte (l : List UInt8) (n p : Nat) (hp : p < 8) : bitN l (8 * n + p) = (l.getD n 0).toNat / 2 ^ (7 - p) % 2 := by
  unfold bitN
  rw [show (8 * n + p) / 8 = n by omega, show (8 * n + p) % 8 = p by omega]

theorem ext_bytes {k l : List UInt8} (hk : k.length = 32) (hl : l.length = 32) (h : ∀ n, n < 32 → k.getD n 0 = l.getD n 0) : k = l := by
  refine List.ext_getElem (by omega) fun n h1 h2 => ?_
  have := h n (by omega)
  simpa [List.getD_eq_getElem?_getD, h1, h2] using this

theorem cm_256 {k l : List UInt8} (hk : k.length = 32) (hl : l.length = 32) (h : cm k l = 256) : k = l := by
  have h2 := (cm_is k l).2.1
  rw [h] at h2
  refine ext_bytes hk hl fun n hn => ?_
  refine UInt8.toNat_inj.1 (byte_of_bits _ _ (UInt8.toNat_lt _) (UInt8.toNat_lt _) fun p hp => ?_)
  have := h2 (8 * n + p) (by omega)
  rwa [bitN_byte k n p hp, bitN_byte l n p hp] at this
theorem cm_lt {k l : List UInt8} (hk : k.length = 32) (hl : l.length = 32) (h : k ≠ l) : cm k l < 256 := by
  have := cm_le k l
  rcases Nat.lt_or_ge (cm k l) 256 with h' | h'
  · exact h'
  · exact absurd (cm_256 hk hl (by omega)) h

/-- k stands ahead of l. -/
def ltB (k l : List UInt8) : Bool := decide (cm k l < 256) && decide (bitN k (cm k l) = 0)

/-- The first byte that differs, and the first bit in it. -/
theorem isCm_of_byte {k l : List UInt8} (n p : Nat) (hn : n < 32) (hp : p < 8) (heq : ∀ j, j < n → k.getD j 0 = l.getD j 0)
    (hb : ∀ q, q < p → (k.getD n 0).toNat / 2 ^ (7 - q) % 2 = (l.getD n 0).toNat / 2 ^ (7 - q) % 2)
    (hd : (k.getD n 0).toNat / 2 ^ (7 - p) % 2 ≠ (l.getD n 0).toNat / 2 ^ (7 - p) % 2) : IsCm k l (8 * n + p) := by
  refine ⟨by omega, fun j hj => ?_, fun _ => by rwa [bitN_byte k n p hp, bitN_byte l n p hp]⟩
  rw [show j = 8 * (j / 8) + j % 8 by omega, bitN_byte k _ _ (Nat.mod_lt _ (by decide)), bitN_byte l _ _ (Nat.mod_lt _ (by decide))]
  rcases Nat.lt_or_ge (j / 8) n with h | h
  · rw [heq _ h]
  · have e : j / 8 = n := by omega
    rw [e]
    exact hb _ (by omega)

/-- Bytes that differ: the first bit that differs. -/
theorem first_bit (a b : Nat) (ha : a < 256) (hb : b < 256) (h : a ≠ b) : ∃ p, p < 8 ∧ (∀ q, q < p → a / 2 ^ (7 - q) % 2 = b / 2 ^ (7 - q) % 2) ∧ a / 2 ^ (7 - p) % 2 ≠ b / 2 ^ (7 - p) % 2 := by
  cases hf : (List.range 8).find? fun p => a / 2 ^ (7 - p) % 2 != b / 2 ^ (7 - p) % 2 with
  | none =>
    rw [List.find?_eq_none] at hf
    exact absurd (byte_of_bits a b ha hb fun p hp => by simpa using hf p (List.mem_range.2 hp)) h
  | some i =>
    rw [List.find?_range_eq_some] at hf
    obtain ⟨hp, hm, hb'⟩ := hf
    exact ⟨i, by simpa using hm, fun q hq => by simpa using hb' q hq, by simpa using hp⟩

theorem bits8 (a : Nat) (h : a < 256) : a = 128 * (a / 2 ^ (7 - 0) % 2) + 64 * (a / 2 ^ (7 - 1) % 2) + 32 * (a / 2 ^ (7 - 2) % 2) + 16 * (a / 2 ^ (7 - 3) % 2) + 8 * (a / 2 ^ (7 - 4) % 2) + 4 * (a / 2 ^ (7 - 5) % 2) + 2 * (a / 2 ^ (7 - 6) % 2) + a / 2 ^ (7 - 7) % 2 := by
  simp only [Nat.sub_zero, Nat.reducePow, Nat.reduceSub]
  omega
theorem lt_of_bits (f g : Nat → Nat) (a b p : Nat) (hf : ∀ q, f q < 2) (hg : ∀ q, g q < 2)
    (ha : a = 128 * f 0 + 64 * f 1 + 32 * f 2 + 16 * f 3 + 8 * f 4 + 4 * f 5 + 2 * f 6 + f 7)
    (hb : b = 128 * g 0 + 64 * g 1 + 32 * g 2 + 16 * g 3 + 8 * g 4 + 4 * g 5 + 2 * g 6 + g 7)
    (hp : p < 8) (hq : ∀ q, q < p → f q = g q) (hd : f p ≠ g p) : (a < b ↔ f p = 0) := by
  have f0 := hf 0; have f1 := hf 1; have f2 := hf 2; have f3 := hf 3; have f4 := hf 4; have f5 := hf 5; have f6 := hf 6; have f7 := hf 7
  have g0 := hg 0; have g1 := hg 1; have g2 := hg 2; have g3 := hg 3; have g4 := hg 4; have g5 := hg 5; have g6 := hg 6; have g7 := hg 7
  subst ha hb
  match p, hp with
  | 0, _ => omega
  | 1, _ => rw [hq 0 (by decide)] at *; omega
  | 2, _ => rw [hq 0 (by decide), hq 1 (by decide)] at *; omega
  | 3, _ => rw [hq 0 (by decide), hq 1 (by decide), hq 2 (by decide)] at *; omega
  | 4, _ => rw [hq 0 (by decide), hq 1 (by decide), hq 2 (by decide), hq 3 (by decide)] at *; omega
  | 5, _ => rw [hq 0 (by decide), hq 1 (by decide), hq 2 (by decide), hq 3 (by decide), hq 4 (by decide)] at *; omega
  | 6, _ => rw [hq 0 (by decide), hq 1 (by decide), hq 2 (by decide), hq 3 (by decide), hq 4 (by decide), hq 5 (by decide)] at *; omega
  | 7, _ => rw [hq 0 (by decide), hq 1 (by decide), hq 2 (by decide), hq 3 (by decide), hq 4 (by decide), hq 5 (by decide), hq 6 (by decide)] at *; omega
theorem lt_of_first (a b p : Nat) (ha : a < 256) (hb : b < 256) (hp : p < 8) (hq : ∀ q, q < p → a / 2 ^ (7 - q) % 2 = b / 2 ^ (7 - q) % 2) (hd : a / 2 ^ (7 - p) % 2 ≠ b / 2 ^ (7 - p) % 2) :
    (a < b ↔ a / 2 ^ (7 - p) % 2 = 0) :=
  lt_of_bits (fun q => a / 2 ^ (7 - q) % 2) (fun q => b / 2 ^ (7 - q) % 2) a b p (fun _ => Nat.mod_lt _ (by decide)) (fun _ => Nat.mod_lt _ (by decide)) (bits8 a ha) (bits8 b hb) hp hq hd

/-- By the first byte that differs. -/
theorem ltB_of_byte {k l : List UInt8} (n : Nat) (hn : n < 32) (heq : ∀ j, j < n → k.getD j 0 = l.getD j 0) (hd : k.getD n 0 ≠ l.getD n 0) :
    ltB k l = decide ((k.getD n 0).toNat < (l.getD n 0).toNat) := by
  obtain ⟨p, hp, hb, hne⟩ := first_bit _ _ (UInt8.toNat_lt _) (UInt8.toNat_lt _) (fun e => hd (UInt8.toNat_inj.1 e))
  have hc := isCm_of_byte n p hn hp heq hb hne
  have he := hc.eq
  have hl := lt_of_first _ _ p (UInt8.toNat_lt _) (UInt8.toNat_lt _) hp hb hne
  unfold ltB
  rw [← he, bitN_byte k n p hp]
  have h256 : 8 * n + p < 256 := by omega
  simp only [h256, decide_true, Bool.true_and]
  exact decide_eq_decide.2 hl.symm

theorem ltB_self (k : List UInt8) : ltB k k = false := by simp [ltB, cm_self]
theorem ltB_asymm {k l : List UInt8} (h : ltB k l = true) : ltB l k = false := by
  unfold ltB at *
  rw [cm_symm l k]
  simp only [Bool.and_eq_true, decide_eq_true_eq] at h
  have := (cm_is k l).2.2 h.1
  have h2 := bitN_lt l (cm k l)
  simp only [Bool.and_eq_false_iff, decide_eq_false_iff_not]
  exact .inr (by omega)
theorem ltB_total {k l : List UInt8} (hk : k.length = 32) (hl : l.length = 32) (h : k ≠ l) : ltB k l = true ∨ ltB l k = true := by
  have hc := cm_lt hk hl h
  unfold ltB
  rw [cm_symm l k]
  have := (cm_is k l).2.2 hc
  have h1 := bitN_lt k (cm k l)
  have h2 := bitN_lt l (cm k l)
  simp only [Bool.and_eq_true, decide_eq_true_eq]
  omega
/-- It stands in an order. -/
theorem ltB_trans {a b c : List UInt8} (h : ltB a b = true) (h' : ltB b c = true) : ltB a c = true := by
  unfold ltB at *
  simp only [Bool.and_eq_true, decide_eq_true_eq] at *
  obtain ⟨h1, h2⟩ := h
  obtain ⟨h3, h4⟩ := h'
  obtain ⟨_, p2, p3⟩ := cm_is a b
  obtain ⟨_, q2, q3⟩ := cm_is b c
  have p3' := p3 h1
  have q3' := q3 h3
  rcases Nat.lt_trichotomy (cm a b) (cm b c) with hlt | he | hlt
  · have : IsCm a c (cm a b) := ⟨by omega, fun j hj => (p2 j hj).trans (q2 j (by omega)), fun _ e => p3' (e.trans (q2 _ hlt).symm)⟩
    rw [← this.eq]; exact ⟨h1, h2⟩
  · rw [he] at p3' h2; omega
  · have : IsCm a c (cm b c) := ⟨by omega, fun j hj => (p2 j (by omega)).trans (q2 j hj), fun _ e => q3' ((p2 _ hlt).symm.trans e)⟩
    rw [← this.eq]; exact ⟨h3, (p2 _ hlt).trans h4⟩
end Go.Cu
/- bytes.Compare's entry over two arrays of bytes that are known whole; the order of keys by it. -/
namespace Go.Cu
open Go Go.RowKit

theorem compare_first : ∀ (k l : List UInt8), k.length = l.length →
    (k = l ∧ Lib.compareBytes k l = 0) ∨ ∃ n, n < k.length ∧ (∀ j, j < n → k.getD j 0 = l.getD j 0) ∧ k.getD n 0 ≠ l.getD n 0 ∧ Lib.compareBytes k l = if (k.getD n 0).toNat < (l.getD n 0).toNat then -1 else 1
  | [], [], _ => .inl ⟨rfl, rfl⟩
  | [], _ :: _, h => by simp at h
  | _ :: _, [], h => by simp at h
  | a :: k, b :: l, h => by
    by_cases hab : a = b
    · subst hab
      rcases compare_first k l (by simpa using h) with ⟨h1, h2⟩ | ⟨n, hn, h1, h2, h3⟩
      · exact .inl ⟨by rw [h1], by simp [Lib.compareBytes, h2]⟩
      · refine .inr ⟨n + 1, by simpa using hn, fun j hj => ?_, by simpa using h2, by simpa [Lib.compareBytes] using h3⟩
        match j with
        | 0 => rfl
        | j + 1 => simpa using h1 j (by omega)
    · refine .inr ⟨0, by simp, fun j hj => absurd hj (by omega), by simpa using hab, ?_⟩
      have hne : a.toNat ≠ b.toNat := fun e => hab (UInt8.toNat_inj.1 e)
      simp only [Lib.compareBytes, UInt8.lt_iff_toNat_lt, List.getD_cons_zero]
      by_cases h1 : a.toNat < b.toNat
      · simp [h1]
      · have h2 : b.toNat < a.toNat := by omega
        simp [h1, h2]

/-- The order of keys: -1, 0, 1. -/
def ordB (k l : List UInt8) : Int := if k = l then 0 else if ltB k l then -1 else 1
theorem ordB_compare {k l : List UInt8} (hk : k.length = 32) (hl : l.length = 32) : Lib.compareBytes k l = ordB k l := by
  unfold ordB
  rcases compare_first k l (by omega) with ⟨h1, h2⟩ | ⟨n, hn, h1, h2, h3⟩
  · rw [if_pos h1, h2]
  · have hne : k ≠ l := fun e => h2 (by rw [e])
    rw [if_neg hne, h3, ltB_of_byte n (by omega) h1 h2]
    simp
theorem ordB_neg (k l : List UInt8) : decide (ordB k l < 0) = ltB k l := by
  unfold ordB
  by_cases h : k = l
  · subst h; simp [ltB_self]
  · rw [if_neg h]
    cases ltB k l <;> simp

theorem bytesOf_bv (l : List UInt8) : Lib.bytesOf (l.map fun b => (b.toNat : Int)) = l := by
  unfold Lib.bytesOf
  rw [List.map_map]
  conv => rhs; rw [← List.map_id l]
  refine List.map_congr_left fun b _ => ?_
  simp

theorem run_loadBytes_bv {P : Program} (w : World) (g : Nat) (t : TypeId) (fr : Nat × Nat) (l : List UInt8) (hg : w.heap[g]? = some (.cells (bv l) t fr)) :
    (Extern.Bytes.loadBytes ⟨g, 0, none⟩ l.length .empty).run P w = .ok ⟨l.toArray⟩ w := by
  have h := Lib.run_loadBytesX (P := P) w (l.map fun b => (b.toNat : Int)) ⟨g, 0, none⟩ .empty (fun j x hj => by
    have hadd : (⟨g, 0, none⟩ : Addr).add j = ⟨g, j, none⟩ := by unfold Addr.add; split <;> simp_all
    rw [hadd, cell_of_row w g j (bv l) t fr hg]
    simp only [bv, List.getElem?_toArray, List.getElem?_map] at hj ⊢
    cases hl : l[j]? with
    | none => simp [hl] at hj
    | some u => simp [hl] at hj ⊢; exact hj)
  rw [bytesOf_bv, List.length_map] at h
  rw [h]
  congr 1
  apply ByteArray.ext
  show (#[] : Array UInt8) ++ l.toArray = l.toArray
  simp

theorem run_compare_bv {P : Program} (w : World) (g g' : Nat) (t t' : TypeId) (fr fr' : Nat × Nat) (k l : List UInt8) (c c' : Nat) (hg : w.heap[g]? = some (.cells (bv k) t fr)) (hg' : w.heap[g']? = some (.cells (bv l) t' fr')) :
    (Extern.BytealgCompare.compare #[.slice (some ⟨g, 0, none⟩) k.length c, .slice (some ⟨g', 0, none⟩) l.length c']).run P w = .ok (.int .i64 (Lib.compareBytes k l)) w := by
  change Sem.run P (do pure (goInt (Extern.BytealgCompare.cmp (← Extern.Bytes.bytesOf (.slice (some ⟨g, 0, none⟩) k.length c)) (← Extern.Bytes.bytesOf (.slice (some ⟨g', 0, none⟩) l.length c'))))) w = _
  simp only [Extern.Bytes.bytesOf, Sem.run_bind, run_loadBytes_bv w g t fr k hg, run_loadBytes_bv w g' t' fr' l hg', Result.andThen_ok, Sem.run_pure, Lib.cmp_eq, goInt]
theorem xor_bit (a b j : Nat) : ((a ^^^ b) / 2 ^ j % 2 = 0 ↔ a / 2 ^ j % 2 = b / 2 ^ j % 2) := by
  have h := Nat.testBit_xor a b j
  rw [Nat.testBit_eq_decide_div_mod_eq, Nat.testBit_eq_decide_div_mod_eq, Nat.testBit_eq_decide_div_mod_eq] at h
  have ha : a / 2 ^ j % 2 < 2 := Nat.mod_lt _ (by decide)
  have hb : b / 2 ^ j % 2 < 2 := Nat.mod_lt _ (by decide)
  have hx : (a ^^^ b) / 2 ^ j % 2 < 2 := Nat.mod_lt _ (by decide)
  generalize (a ^^^ b) / 2 ^ j % 2 = x at *
  generalize a / 2 ^ j % 2 = u at *
  generalize b / 2 ^ j % 2 = v at *
  match x, u, v, hx, ha, hb with
  | 0, 0, 0, _, _, _ => simp
  | 0, 0, 1, _, _, _ => simp at h
  | 0, 1, 0, _, _, _ => simp at h
  | 0, 1, 1, _, _, _ => simp
  | 1, 0, 0, _, _, _ => simp at h
  | 1, 0, 1, _, _, _ => simp
  | 1, 1, 0, _, _, _ => simp
  | 1, 1, 1, _, _, _ => simp at h

theorem len_bits : ∀ x : Fin 256, x.val ≠ 0 → 1 ≤ Lib.bitLen x.val ∧ Lib.bitLen x.val ≤ 8 ∧ (∀ q : Fin 8, q.val < 8 - Lib.bitLen x.val → x.val / 2 ^ (7 - q.val) % 2 = 0) ∧ x.val / 2 ^ (7 - (8 - Lib.bitLen x.val)) % 2 ≠ 0 := by decide +kernel

theorem bt_nat (l : List UInt8) (i : Nat) : (bt l i).toNat = (l.getD i 0).toNat := by simp [bt]
theorem cm_exit {k l : List UInt8} {n : Nat} (hn : n < 32) (heq : ∀ j, j < n → k.getD j 0 = l.getD j 0) (hne : bt k n ≠ bt l n) :
    0 ≤ bits .xor .u8 (bt k n) (bt l n) ∧ bits .xor .u8 (bt k n) (bt l n) ≤ 255 ∧ 8 * (n : Int) + (8 - (Lib.bitLen (bits .xor .u8 (bt k n) (bt l n)).toNat : Int)) = (cm k l : Int) := by
  rw [u8_xor _ _ (bt_ge k n) (bt_lt k n) (bt_ge l n) (bt_lt l n), bt_nat, bt_nat, Int.toNat_natCast]
  have ha := UInt8.toNat_lt (k.getD n 0)
  have hb := UInt8.toNat_lt (l.getD n 0)
  have hd : (k.getD n 0).toNat ≠ (l.getD n 0).toNat := fun e => hne (by unfold bt; rw [e])
  have hx : (k.getD n 0).toNat ^^^ (l.getD n 0).toNat < 256 := Nat.xor_lt_two_pow (n := 8) ha hb
  have h0 : (k.getD n 0).toNat ^^^ (l.getD n 0).toNat ≠ 0 := fun e => hd (Nat.eq_of_testBit_eq fun i => by
    have := Nat.testBit_xor (k.getD n 0).toNat (l.getD n 0).toNat i
    rw [e, Nat.zero_testBit] at this
    revert this
    cases (k.getD n 0).toNat.testBit i <;> cases (l.getD n 0).toNat.testBit i <;> simp)
  obtain ⟨h1, h8, hq, hp⟩ := len_bits ⟨_, hx⟩ h0
  simp only at h1 h8 hq hp
  refine ⟨by omega, by omega, ?_⟩
  have hc : IsCm k l (8 * n + (8 - Lib.bitLen ((k.getD n 0).toNat ^^^ (l.getD n 0).toNat))) :=
    isCm_of_byte n _ hn (by omega) heq (fun q hql => (xor_bit _ _ _).1 (hq ⟨q, by omega⟩ hql)) (fun e => hp ((xor_bit _ _ _).2 e))
  rw [← hc.eq]
  omega
theorem cm_all {k l : List UInt8} (heq : ∀ j, j < 32 → k.getD j 0 = l.getD j 0) : cm k l = 256 :=
  ((show IsCm k l 256 from ⟨Nat.le_refl _, fun j hj => by unfold bitN; rw [heq _ (by omega)], fun h => absurd h (by decide)⟩).eq).symm
theorem bt_inj {k l : List UInt8} {n : Nat} (h : bt k n = bt l n) : k.getD n 0 = l.getD n 0 := by
  unfold bt at h
  exact UInt8.toNat_inj.1 (by omega)

theorem run_eqItems_bv {P : Program} {e : TypeId} (he : ByteElem P e) (hc : P.cellsOf e = 1) (d : Nat) (k l : List UInt8) (w : World) :
    ∀ is : List Nat, (∀ i ∈ is, i < k.length ∧ i < l.length) → (Op.eqItems (d + 1) e (P.cellsOf e) (bv k) (bv l) is).run P w = .ok (is.all fun i => bt k i == bt l i) w
  | [], _ => by simp [Op.eqItems]
  | i :: is, h => by
    have hi := h i (by simp)
    have ih := run_eqItems_bv he hc d k l w is (fun j hj => h j (by simp [hj]))
    simp only [Op.eqItems, Sem.run_bind, hc, Nat.mul_one, run_part_bv he k i hi.1, run_part_bv he l i hi.2, Result.andThen_ok, run_equalIn_int w d e _ _ _ _ he.und]
    rw [hc] at ih
    cases hb : bt k i == bt l i
    · simp [hb]
    · simp [hb, ih]

/-- Two arrays of bytes compared. -/
theorem run_eql_bv {P : Program} {t e : TypeId} {n : Nat} (ht : P.underlying t = some (.array n e)) (he : ByteElem P e) (hc : P.cellsOf e = 1) (k l : List UInt8) (hk : k.length = n) (hl : l.length = n) (w : World) :
    (binOp .eql t (.agg (bv k)) (.agg (bv l))).run P w = .ok (.bool (decide (k = l))) w := by
  cases hq : P.info? e with
  | none => have := he.size; simp [hq] at this
  | some i =>
    have h := run_eqItems_bv he hc 9998 k l w (List.range n) (fun i hi => by simp only [List.mem_range] at hi; omega)
    rw [run_eql_struct, run_equalIn_array w 9999 (bv k) (bv l) ht hq, h]
    simp only [Result.andThen_ok]
    congr 2
    rw [Bool.eq_iff_iff]
    simp only [List.all_eq_true, List.mem_range, beq_iff_eq, decide_eq_true_eq]
    constructor
    · intro h
      refine List.ext_getElem (by omega) fun j h1 h2 => ?_
      have := bt_inj (h j (by omega))
      simpa [List.getD_eq_getElem?_getD, h1, h2] using this
    · rintro rfl j _
      rfl
theorem run_neq_bv {P : Program} {t e : TypeId} {n : Nat} (ht : P.underlying t = some (.array n e)) (he : ByteElem P e) (hc : P.cellsOf e = 1) (k l : List UInt8) (hk : k.length = n) (hl : l.length = n) (w : World) :
    (binOp .neq t (.agg (bv k)) (.agg (bv l))).run P w = .ok (.bool (!decide (k = l))) w := by
  have h := run_eql_bv ht he hc k l hk hl w
  rw [run_eql_struct] at h
  rw [run_neq_struct]
  generalize (Op.equalIn 10000 t (.agg (bv k)) (.agg (bv l))).run P w = r at *
  cases r with
  | ok b w' =>
    simp only [Result.andThen_ok, Result.ok.injEq, Value.bool.injEq] at h ⊢
    exact ⟨by rw [h.1], h.2⟩
  | halt x w' => simp [Result.andThen] at h

section
variable {P : Program} {ops : Array Oper} {o : Oper} {a : Act} {t e : TypeId} {n : Nat}
theorem exec_eql_bv (hm : P.eqGuardType P.depth t = false) (t' : TypeId) (x y : Operand) (ho : o.op = .binOp .eql t x y t') (k l : List UInt8) (hx : a.eval x = .agg (bv k)) (hy : a.eval y = .agg (bv l)) (ht : P.underlying t = some (.array n e)) (he : ByteElem P e) (hc : P.cellsOf e = 1) (hk : k.length = n) (hl : l.length = n) (w : World) :
    (execOp a.eval o).run P w = .ok (.value (.bool (decide (k = l)))) w := by
  unfold execOp
  simp only [ho, hx, hy, Sem.run_bind, run_eqGuard_agg w _ _ _ _ _ _ hm, Result.andThen_ok, run_eql_bv ht he hc k l hk hl, Sem.run_pure]
theorem exec_neq_bv (hm : P.eqGuardType P.depth t = false) (t' : TypeId) (x y : Operand) (ho : o.op = .binOp .neq t x y t') (k l : List UInt8) (hx : a.eval x = .agg (bv k)) (hy : a.eval y = .agg (bv l)) (ht : P.underlying t = some (.array n e)) (he : ByteElem P e) (hc : P.cellsOf e = 1) (hk : k.length = n) (hl : l.length = n) (w : World) :
    (execOp a.eval o).run P w = .ok (.value (.bool (!decide (k = l)))) w := by
  unfold execOp
  simp only [ho, hx, hy, Sem.run_bind, run_eqGuard_agg w _ _ _ _ _ _ hm, Result.andThen_ok, run_neq_bv ht he hc k l hk hl, Sem.run_pure]
theorem wpList_eql_bv {rest : List Oper} {w : World} {Q : Exit → Act → World → Prop} (t' : TypeId) (x y : Operand) (ho : o.op = .binOp .eql t x y t') (k l : List UInt8) (hx : a.eval x = .agg (bv k)) (hy : a.eval y = .agg (bv l)) (hw : Region.wanted o (yielded ops a.tmps) = true)
    (hm : P.eqGuardType P.depth t = false) (ht : P.underlying t = some (.array n e)) (he : ByteElem P e) (hc : P.cellsOf e = 1) (hk : k.length = n) (hl : l.length = n) (h : wpList P ops Q rest (a.put o.dst (.bool (decide (k = l)))) w) : wpList P ops Q (o :: rest) a w :=
  wpList_val hw _ (exec_eql_bv hm t' x y ho k l hx hy ht he hc hk hl w) h
theorem wpList_neq_bv {rest : List Oper} {w : World} {Q : Exit → Act → World → Prop} (t' : TypeId) (x y : Operand) (ho : o.op = .binOp .neq t x y t') (k l : List UInt8) (hx : a.eval x = .agg (bv k)) (hy : a.eval y = .agg (bv l)) (hw : Region.wanted o (yielded ops a.tmps) = true)
    (hm : P.eqGuardType P.depth t = false) (ht : P.underlying t = some (.array n e)) (he : ByteElem P e) (hc : P.cellsOf e = 1) (hk : k.length = n) (hl : l.length = n) (h : wpList P ops Q rest (a.put o.dst (.bool (!decide (k = l)))) w) : wpList P ops Q (o :: rest) a w :=
  wpList_val hw _ (exec_neq_bv hm t' x y ho k l hx hy ht he hc hk hl w) h
theorem wpQuiet_eql_bv {rest : List Oper} {C : World → Prop} {Q : Act → Prop} (t' : TypeId) (x y : Operand) (ho : o.op = .binOp .eql t x y t') (k l : List UInt8) (hx : a.eval x = .agg (bv k)) (hy : a.eval y = .agg (bv l)) (hw : Region.wanted o (yielded ops a.tmps) = true)
    (hm : P.eqGuardType P.depth t = false) (ht : P.underlying t = some (.array n e)) (he : ByteElem P e) (hc : P.cellsOf e = 1) (hk : k.length = n) (hl : l.length = n)
    (h : ∀ K : Act → Prop, (∀ a, wpQuiet P ops C Q rest a → K a) → K (a.put o.dst (.bool (decide (k = l))))) : wpQuiet P ops C Q (o :: rest) a :=
  wpQuiet_op hw _ (fun W _ => by
    unfold Oper.quietAt
    rw [exec_eql_bv hm t' x y ho k l hx hy ht he hc hk hl W]
    exact ⟨rfl, rfl⟩) (h _ fun _ hh => hh)
end

theorem run_cmpK_eql {P : Program} {t e : TypeId} {n : Nat} (hm : P.eqGuardType P.depth t = false) (ht : P.underlying t = some (.array n e)) (he : ByteElem P e) (hc : P.cellsOf e = 1) {k l : List UInt8} (hk : k.length = n) (hl : l.length = n) (x y : Operand) (w : World) :
    (cmpK .eql t x y (.agg (bv k)) (.agg (bv l))).run P w = .ok (.value (.bool (decide (k = l)))) w := by
  simp only [cmpK, Sem.run_bind, run_eqGuard_agg w _ _ _ _ _ _ hm, Result.andThen_ok, run_eql_bv ht he hc k l hk hl, Sem.run_pure]
theorem run_cmpK_neq {P : Program} {t e : TypeId} {n : Nat} (hm : P.eqGuardType P.depth t = false) (ht : P.underlying t = some (.array n e)) (he : ByteElem P e) (hc : P.cellsOf e = 1) {k l : List UInt8} (hk : k.length = n) (hl : l.length = n) (x y : Operand) (w : World) :
    (cmpK .neq t x y (.agg (bv k)) (.agg (bv l))).run P w = .ok (.value (.bool (!decide (k = l)))) w := by
  simp only [cmpK, Sem.run_bind, run_eqGuard_agg w _ _ _ _ _ _ hm, Result.andThen_ok, run_neq_bv ht he hc k l hk hl, Sem.run_pure]
end Go.Cu
namespace Go.Proofs.Ythmchbdhikakhaa
open Go.RowKit Go.Cu
theorem be5 : ByteElem Try.prog 5 := ⟨by kernel_rfl, Try.underlying5⟩
theorem cells5 : Try.prog.cellsOf 5 = 1 := by kernel_rfl
theorem size33 : (Try.prog.info? 33).map (·.size) = some 128 := by kernel_rfl
theorem guard33 : Try.prog.eqGuardType Try.prog.depth 33 = false := by kernel_rfl
set_option maxRecDepth 20000 in
theorem zero33 (W : World) : (zeroValue 33).run Try.prog W = .ok (.agg (bv zeroB)) W := by kernel_rfl
set_option maxRecDepth 20000 in
theorem build33 (W : World) : (Instr.build 33 #[]).run Try.prog W = .ok (.agg (bv zeroB)) W := by kernel_rfl
@[go_sem ↓] theorem ldk33 (a : Act) (dst : Option Tmp) (x : Operand) (ty : TypeId) (pos : String) (after : Array Edge) (guard : Option (Nat × Bool)) :
      execOp a.eval { dst, op := .load 33 x, type := ty, pos, after, guard } = loadK 33 (a.eval x) := rfl
@[go_sem ↓] theorem eqk33 (a : Act) (dst : Option Tmp) (x y : Operand) (t' ty : TypeId) (pos : String) (after : Array Edge) (guard : Option (Nat × Bool)) :
      execOp a.eval { dst, op := .binOp .eql 33 x y t', type := ty, pos, after, guard } = cmpK .eql 33 x y (a.eval x) (a.eval y) := rfl
@[go_sem ↓] theorem nek33 (a : Act) (dst : Option Tmp) (x y : Operand) (t' ty : TypeId) (pos : String) (after : Array Edge) (guard : Option (Nat × Bool)) :
      execOp a.eval { dst, op := .binOp .neq 33 x y t', type := ty, pos, after, guard } = cmpK .neq 33 x y (a.eval x) (a.eval y) := rfl
theorem bvz : (bv zeroB).size = 128 := (bv_size _).trans zeroB_len

theorem results_cell_tmp {fn : Func} {p t : Tmp} {ty e : TypeId} {n : Nat} (h : fn.results = #[.cell p ty, .tmp t]) (tmps : Array Value) (P : Program) (w : World) (g : Nat) (t' : TypeId) (cs : Array Value) (fr : Nat × Nat)
    (hp : tmps.getD p undef = .pointer (some ⟨g, 0, none⟩)) (hg : w.heap[g]? = some (.cells cs t' fr))
    (hu : P.underlying ty = some (.array n e)) (hi : (P.info? ty).map (·.size) = some cs.size) :
    (results fn tmps).run P w = .ok (.tuple #[.agg cs, tmps.getD t undef]) w := by
  have hp' : tmps[p]?.getD undef = .pointer (some ⟨g, 0, none⟩) := by simpa using hp
  have hl := run_loadVar_row (P := P) w g t' ty cs fr _ hg hu rfl hi
  simp [results, h, hp', asAddr, hl]

set_option maxRecDepth 20000 in
set_option maxHeartbeats 400000 in
/-- Read where nothing is answered. -/
theorem read_bad {v : Value} {e : Int} {w : World} {i : Int} (he : e ≠ 0) (ha : Hid (∀ w', Below w.heap.size w w' → Calls Try.prog 57 #[v, .int .i64 i] w' fun x w'' => x = .returned (.int .i64 e) ∧ w' = w'')) :
    Calls Try.prog 18 #[v, .int .i64 i] w fun x w' => x = .returned (.tuple #[.agg (bv zeroB), .int .i64 e]) ∧ Below w.heap.size w w' := by
  have hne : (e != 0) = true := by simpa using he
  clear he
  go_enter Try.func18, Try.ntmps18
  go_wp2_with (first | (refine wpList_alloc 33 rfl rfl (.agg (bv zeroB)) zero33 ?_; intro gr W0 hR hr hgr hW) | (go_at_call 57; refine (ha.out _ hW).mono ?_; rintro x w' ⟨rfl, rfl⟩) | (refine wpList_buildv 33 _ rfl rfl #[] ?_ (.agg (bv zeroB)) build33 ?_; (· simp [Act.eval])) | (refine wpList_store_box 33 _ _ rfl gr rfl rfl (bv zeroB) rfl 128 size33 bvz (bv_one _) 33 _ hR bvz ?_; intro X2 hR2 hT2 hs2))
  refine bodyPost_ret (results_cell_tmp rfl _ _ _ gr 33 (bv zeroB) (0, 0) rfl hR2 Try.underlying33 (by rw [bvz]; exact size33)) rfl ⟨rfl, ?_⟩
  exact hW.trans (hT2.below hW.size (fun i hi => by subst hi; exact hgr))

set_option maxRecDepth 20000 in
set_option maxHeartbeats 400000 in
theorem read_ok {p : Nat} {F : Nat → Prop} {S : DS} {w : World} {N : Nat} (h : DiskIn w p F S) (hok : S.Ok N) {n : Nat} (hz : S.at_ (n : Int) = 0) :
    Calls Try.prog 18 #[.pointer (some ⟨p, 0, none⟩), .int .i64 n] w fun x w' => x = .returned (.tuple #[.agg (bv (S.now.getD n zeroB)), .int .i64 0]) ∧ Below w.heap.size w w' := by
  have ha := hid fun w' (hb : Below w.heap.size w w') => at_any (w := w') (h.below hb) hok n
  rw [hz] at ha
  obtain ⟨_, _, hlt⟩ := DS.at_zero hz
  have hbig := hok.big
  have HG := hid (show S.now[n]? = some (S.now.getD n zeroB) by rw [List.getD_eq_getElem?_getD, List.getElem?_eq_getElem (by omega)]; rfl)
  have hlen := hid (full_getD hok.now n)
  have HSZ := hid ((bv_size _).trans hlen.out)
  have HL := hid (fun (X : World) (hb : Below w.heap.size w X) => ((h.below hb).cells))
  obtain ⟨pn, pl, wv, h0, _, _, _, _, hat⟩ := h.cells
  have HF := hid (show Full S.now from hok.now)
  have hp := lt_of_heap hat.box
  have hpn := lt_of_heap hat.now
  have LN : ∀ X, Below w.heap.size w X → (loadK 33 (.pointer (some ⟨pn, n * 128, none⟩))).run Try.prog X = .ok (.value (.agg (bv (S.now.getD n zeroB)))) X := fun X hb =>
    run_loadK ((hb.block pn hpn).trans hat.now) Try.underlying33 rfl size33 HSZ.out (flat_get HF.out HG.out)
  have L0 : ∀ X, Below w.heap.size w X → X.cell? ⟨p, 0, none⟩ = some (.slice (some ⟨pn, 0, none⟩) S.now.length S.now.length) := fun X hb => (hb.cell (p := ⟨p, 0, none⟩) hp).trans h0
  clear h hok hz h0 hat
  go_enter Try.func18, Try.ntmps18
  go_wp2_with (first | (refine wpList_alloc 33 rfl rfl (.agg (bv zeroB)) zero33 ?_; intro gr W0 hR hr hgr hW) | (go_at_call 57; refine (ha.out _ hW).mono ?_; rintro x w' ⟨rfl, rfl⟩) | (refine wpList_store_box 33 _ _ rfl gr rfl rfl (bv (S.now.getD n zeroB)) rfl 128 size33 HSZ.out (bv_one _) 33 _ hR bvz ?_; intro X2 hR2 hT2 hs2))
  refine bodyPost_ret (results_cell_tmp rfl _ _ _ gr 33 (bv _) (0, 0) rfl hR2 Try.underlying33 (by rw [HSZ.out]; exact size33)) rfl ⟨rfl, ?_⟩
  exact hW.trans (hT2.below hW.size (fun i hi => by subst hi; exact hgr))
end Go.Proofs.Ythmchbdhikakhaa
/- A region that draws its order: the first k operations yield whatever the world; those up to n in every world of a class; one that may come early keeps the class; the rest comes in one forced order. -/
namespace Go.Cu
open Go Go.RowKit
section
variable {P : Program} {ops : Array Oper} {Q : Exit → Act → World → Prop} {md : Region.Mode} {S : World → Prop}

/-- As sinkB, from number k on. -/
def sinkFrom (md : Region.Mode) (ops : Array Oper) (k m : Nat) : Bool :=
  (List.range m).all fun i => decide (i < k) || (List.range (m + 1)).any fun j => decide (i < j) && Region.waitsFor md ops j i
theorem waitsFrom {k m : Nat} {listed : Array Bool} (hs : sinkFrom md ops k m = true) (hc : Region.chainB md ops m = true) (hn : m < ops.size) (inv : HeadInv md ops m listed) :
    ∀ (d i : Nat), m - i = d → i < m → k ≤ i → listed.getD i true = false → ∀ t, m ≤ t → t ∉ Region.ready md ops listed := by
  intro d
  induction d using Nat.strongRecOn with
  | _ d ih =>
    intro i hd hi hki hun t ht hr
    obtain ⟨_, ot, hot, hall⟩ := mem_ready.1 hr
    have htlt : t < ops.size := (Array.getElem?_eq_some_iff.1 hot).1
    by_cases htn : t = m
    · subst htn
      have h1 := List.all_eq_true.1 hs i (List.mem_range.2 hi)
      simp only [Bool.or_eq_true, decide_eq_true_eq] at h1
      rcases h1 with h1 | h1
      · omega
      obtain ⟨j, hj, hj2⟩ := List.any_eq_true.1 h1
      simp only [Bool.and_eq_true, decide_eq_true_eq] at hj2
      obtain ⟨oj, hoj, e, he, hb, hon⟩ := Region.waitsFor_spec hj2.2
      have hjle : j ≤ t := by have := List.mem_range.1 hj; omega
      by_cases hjt : j = t
      · subst hjt
        have : oj = ot := Option.some.inj (hoj.symm.trans hot)
        subst this
        have h2 := hall e he hb
        rw [hon, getD_both hun] at h2
        cases h2
      · cases hl : listed.getD j false with
        | true =>
          have h2 := inv.closed j oj hoj hl e he hb
          rw [hon, getD_both hun] at h2
          cases h2
        | false =>
          have hjs : j < listed.size := by rw [inv.size]; omega
          exact ih (t - j) (by omega) j rfl (by omega) (by omega) (getD_in hjs hl) t (Nat.le_refl _) hr
    · have h1 := List.all_eq_true.1 hc t (List.mem_range.2 htlt)
      simp only [Bool.or_eq_true, decide_eq_true_eq] at h1
      rcases h1 with h1 | h1
      · omega
      · obtain ⟨o', ho', e, he, hb, hon⟩ := Region.waitsFor_spec h1
        have : o' = ot := Option.some.inj (ho'.symm.trans hot)
        subst this
        have h2 := hall e he hb
        rw [hon, getD_both (inv.tail (t - 1) (by omega) (by omega))] at h2
        cases h2

/-- Whatever order is picked; S holds behind each from k on that stands ahead of m. -/
def wpAnyO (P : Program) (md : Region.Mode) (ops : Array Oper) (Q : Exit → Act → World → Prop) (S : World → Prop) (k m : Nat) : Nat → Array Bool → Act → World → Prop
  | 0, listed, a, w => Region.ready md ops listed = [] ∧ Q .normal a w
  | fuel + 1, listed, a, w =>
    (Region.ready md ops listed = [] → Q .normal a w) ∧
    ∀ i ∈ Region.ready md ops listed, wpOp P ops Q i (fun a' w' => (k ≤ i → i < m → S w') ∧ wpAnyO P md ops Q S k m fuel (listed.setIfInBounds i true) a' w') a w
theorem wpAny_of_O {k m : Nat} : ∀ (fuel : Nat) (listed : Array Bool) (a : Act) (w : World), wpAnyO P md ops Q S k m fuel listed a w → wpAny P md ops Q fuel listed a w
  | 0, _, _, _, h => h
  | fuel + 1, _, _, _, h => ⟨h.1, fun i hi => wpOp_mono (fun a' w' h' => wpAny_of_O fuel _ a' w' h'.2) (h.2 i hi)⟩

theorem not_after {i : Nat} {oj : Oper} {listed : Array Bool} (hun : listed.getD i true = false) (hall : ∀ e ∈ oj.after, Region.binds md e = true → listed.getD e.on false = true) : ∀ e ∈ oj.after, Region.binds md e = true → e.on ≠ i := fun e he hb heq => by
  have h1 := hall e he hb
  rw [heq, getD_both hun] at h1
  cases h1
theorem free_set {i j : Nat} {oi : Oper} {listed : Array Bool} (hjun : listed.getD j true = false)
    (hfree : ∀ j oj, ops[j]? = some oj → j ≠ i → listed.getD j true = false → (∀ e ∈ oj.after, Region.binds md e = true → e.on ≠ i) → oi.apart ops oj = true) :
    ∀ k ok, ops[k]? = some ok → k ≠ i → (listed.setIfInBounds j true).getD k true = false → (∀ e ∈ ok.after, Region.binds md e = true → e.on ≠ i) → oi.apart ops ok = true := fun k ok hk hki hun hno => by
  refine hfree k ok hk hki ?_ hno
  by_cases hjk : j = k
  · subst hjk; exact hjun
  · rw [getD_set_ne true hjk] at hun; exact hun

/-- One that yields whatever the world may be taken first. -/
theorem wpAnyO_pure {k m i : Nat} {oi : Oper} {v : Value} (hik : i < k) (hi : ops[i]? = some oi) (hsel : ∀ (j : Nat) (o : Oper) cs b, ops[j]? = some o → o.op ≠ .select cs b)
    (hQ : ∀ c a w, Q (.panic c) (a.put oi.dst v) w → Q (.panic c) a w) :
    ∀ (fuel : Nat) (listed : Array Bool) (a : Act) (w : World),
      (∀ j oj, ops[j]? = some oj → j ≠ i → listed.getD j true = false → (∀ e ∈ oj.after, Region.binds md e = true → e.on ≠ i) → oi.apart ops oj = true) →
      i ∈ Region.ready md ops listed → YieldsIf P ops (fun _ => True) oi v a →
      wpAnyO P md ops Q S k m fuel (listed.setIfInBounds i true) (a.put oi.dst v) w → wpAnyO P md ops Q S k m (fuel + 1) listed a w := by
  intro fuel
  induction fuel with
  | zero =>
    intro listed a w _ hr hy H
    refine ⟨fun h => (by rw [h] at hr; cases hr), fun j hj => ?_⟩
    by_cases hji : j = i
    · subst hji; exact hy.wpOp hi trivial ⟨fun h => absurd h (by omega), H⟩
    · have := ready_mono hj hji
      rw [H.1] at this
      cases this
  | succ fuel ih =>
    intro listed a w hfree hr hy H
    have hun := (mem_ready.1 hr).1
    refine ⟨fun h => (by rw [h] at hr; cases hr), fun j hj => ?_⟩
    by_cases hji : j = i
    · subst hji; exact hy.wpOp hi trivial ⟨fun h => absurd h (by omega), H⟩
    · have h1 := H.2 j (ready_mono hj hji)
      obtain ⟨hjun, oj, hoj, hall⟩ := mem_ready.1 hj
      have h2 := wpOp_putIf hoj (hfree j oj hoj hji hjun (not_after hun hall)) (fun cs b => hsel i oi cs b hi) (fun cs b => hsel j oj cs b hoj) hQ hy h1
      refine wpOp_mono (fun a' w' h3 => ⟨h3.2.1, ih (listed.setIfInBounds j true) a' w' (free_set hjun hfree) (ready_mono hr (Ne.symm hji)) h3.1 ?_⟩) h2
      rw [Array.setIfInBounds_comm _ _ hji]
      exact h3.2.2

/-- One that yields in every world of the class may be taken first. -/
theorem wpAnyO_first {k m i : Nat} {oi : Oper} {v : Value} (hki : k ≤ i) (him : i < m) (hi : ops[i]? = some oi) (hsel : ∀ (j : Nat) (o : Oper) cs b, ops[j]? = some o → o.op ≠ .select cs b)
    (hs : sinkFrom md ops k m = true) (hc : Region.chainB md ops m = true) (hm : m < ops.size)
    (hQ : ∀ c a w, Q (.panic c) (a.put oi.dst v) w → Q (.panic c) a w) :
    ∀ (fuel : Nat) (listed : Array Bool) (a : Act) (w : World), HeadInv md ops m listed → (∀ j, j < k → listed.getD j true = true) →
      (∀ j oj, ops[j]? = some oj → j ≠ i → listed.getD j true = false → (∀ e ∈ oj.after, Region.binds md e = true → e.on ≠ i) → oi.apart ops oj = true) →
      i ∈ Region.ready md ops listed → YieldsIf P ops S oi v a → S w →
      wpAnyO P md ops Q S k m fuel (listed.setIfInBounds i true) (a.put oi.dst v) w → wpAnyO P md ops Q S k m (fuel + 1) listed a w := by
  intro fuel
  induction fuel with
  | zero =>
    intro listed a w _ _ _ hr hy hS H
    refine ⟨fun h => (by rw [h] at hr; cases hr), fun j hj => ?_⟩
    by_cases hji : j = i
    · subst hji; exact hy.wpOp hi hS ⟨fun _ _ => hS, H⟩
    · have := ready_mono hj hji
      rw [H.1] at this
      cases this
  | succ fuel ih =>
    intro listed a w inv hlow hfree hr hy hS H
    have hun := (mem_ready.1 hr).1
    refine ⟨fun h => (by rw [h] at hr; cases hr), fun j hj => ?_⟩
    by_cases hji : j = i
    · subst hji; exact hy.wpOp hi hS ⟨fun _ _ => hS, H⟩
    · have hjm : j < m := by
        rcases Nat.lt_or_ge j m with h | h
        · exact h
        · exact absurd hj (waitsFrom hs hc hm inv _ i rfl him hki hun j h)
      have h1 := H.2 j (ready_mono hj hji)
      obtain ⟨hjun, oj, hoj, hall⟩ := mem_ready.1 hj
      have hkj : k ≤ j := by
        rcases Nat.lt_or_ge j k with h | h
        · rw [hlow j h] at hjun; cases hjun
        · exact h
      have h2 := wpOp_putIf hoj (hfree j oj hoj hji hjun (not_after hun hall)) (fun cs b => hsel i oi cs b hi) (fun cs b => hsel j oj cs b hoj) hQ hy h1
      refine wpOp_mono (fun a' w' h3 => ⟨fun _ _ => h3.2.1 hkj hjm, ih (listed.setIfInBounds j true) a' w' (inv.set hj hjm) (fun q hq => by rw [getD_set_ne true (by omega)]; exact hlow q hq) (free_set hjun hfree) (ready_mono hr (Ne.symm hji)) h3.1 (h3.2.1 hkj hjm) ?_⟩) h2
      rw [Array.setIfInBounds_comm _ _ hji]
      exact h3.2.2

/-- The forced rest: S behind those ahead of m. -/
def wpTail (P : Program) (ops : Array Oper) (Q : Exit → Act → World → Prop) (S : World → Prop) (m : Nat) : Nat → List Oper → Act → World → Prop
  | _, [], a, w => Q .normal a w
  | k, o :: rest, a, w => if k < m then wpOp P ops Q k (fun a' w' => S w' ∧ wpTail P ops Q S m (k + 1) rest a' w') a w else wpList P ops Q (o :: rest) a w
theorem wpAnyO_of_list {k m : Nat} : ∀ (l : List Oper) (q : Nat) (listed : Array Bool) (a : Act) (w : World), m ≤ q → (∀ j, l[j]? = ops[q + j]?) →
    Region.seqB md ops l.length q listed = true → wpList P ops Q l a w → wpAnyO P md ops Q S k m l.length listed a w
  | [], _, _, _, _, _, _, hB, h => ⟨by simpa [Region.seqB] using hB, h⟩
  | o :: l, q, listed, a, w, hmq, hl, hB, h => by
    have h0 : ops[q]? = some o := by simpa using (hl 0).symm
    simp only [List.length_cons, Region.seqB, Bool.and_eq_true, decide_eq_true_eq] at hB
    refine ⟨fun h1 => (by rw [hB.1] at h1; cases h1), fun i hi => ?_⟩
    rw [hB.1] at hi
    have hik : i = q := by simpa using hi
    subst hik
    have hw : wpOp P ops Q i (wpList P ops Q l) a w := by unfold wpOp; simp only [h0]; exact h
    exact wpOp_mono (fun a' w' h' => ⟨fun _ h => absurd h (by omega), wpAnyO_of_list l (i + 1) _ a' w' (by omega) (fun j => by have := hl (j + 1); simpa [Nat.add_assoc, Nat.add_comm 1 j] using this) hB.2 h'⟩) hw
theorem wpAnyO_of_tail {k m : Nat} : ∀ (l : List Oper) (q : Nat) (listed : Array Bool) (a : Act) (w : World), (∀ j, l[j]? = ops[q + j]?) →
    Region.seqB md ops l.length q listed = true → wpTail P ops Q S m q l a w → wpAnyO P md ops Q S k m l.length listed a w
  | [], _, _, _, _, _, hB, h => ⟨by simpa [Region.seqB] using hB, h⟩
  | o :: l, q, listed, a, w, hl, hB, h => by
    unfold wpTail at h
    split at h
    · simp only [List.length_cons, Region.seqB, Bool.and_eq_true, decide_eq_true_eq] at hB
      refine ⟨fun h1 => (by rw [hB.1] at h1; cases h1), fun i hi => ?_⟩
      rw [hB.1] at hi
      have hik : i = q := by simpa using hi
      subst hik
      exact wpOp_mono (fun a' w' h' => ⟨fun _ _ => h'.1, wpAnyO_of_tail l (i + 1) _ a' w' (fun j => by have := hl (j + 1); simpa [Nat.add_assoc, Nat.add_comm 1 j] using this) hB.2 h'.2⟩) h
    · exact wpAnyO_of_list (o :: l) q listed a w (by omega) hl hB h

/-- Operations that yield in every world of the class, one behind the other. -/
def wpHold (P : Program) (ops : Array Oper) (S : World → Prop) (L : Act → Prop) : List Oper → Act → Prop
  | [], a => L a
  | o :: rest, a => ∃ v, YieldsIf P ops S o v a ∧ wpHold P ops S L rest (a.put o.dst v)

/-- What the kernel looks at: the first f from number k on may each be taken first; then comes what g says. -/
def headB (md : Region.Mode) (ops : Array Oper) (g : Array Bool → Bool) : Nat → Nat → Array Bool → Bool
  | 0, _, listed => g listed
  | f + 1, k, listed => (Region.ready md ops listed).contains k && Region.free md ops listed k && headB md ops g f (k + 1) (listed.setIfInBounds k true)

theorem wpAnyO_pures {k m c : Nat} {L : Act → Prop} {g : Array Bool → Bool} {w : World} (hsel : Region.noSelect ops = true) (hQ : ∀ (d : Option Tmp) (v : Value) c a w, Q (.panic c) (a.put d v) w → Q (.panic c) a w)
    (hL : ∀ listed a, HeadInv md ops m listed → (∀ j, j < k → listed.getD j true = true) → g listed = true → L a → wpAnyO P md ops Q S k m c listed a w) (hkm : k ≤ m) :
    ∀ (l : List Oper) (q : Nat) (listed : Array Bool) (a : Act), (∀ j, j < l.length → l[j]? = ops[q + j]?) → q + l.length = k → HeadInv md ops m listed → (∀ j, j < q → listed.getD j true = true) →
    headB md ops g l.length q listed = true → wpHold P ops (fun _ => True) L l a → wpAnyO P md ops Q S k m (l.length + c) listed a w
  | [], q, listed, a, _, hq, inv, hlow, hB, h => by
    rw [List.length_nil, Nat.zero_add]
    exact hL listed a inv (fun j hj => hlow j (by simp at hq; omega)) hB h
  | o :: l, q, listed, a, hl, hq, inv, hlow, hB, h => by
    have h0 : ops[q]? = some o := by simpa using (hl 0 (by simp)).symm
    simp only [List.length_cons, headB, Bool.and_eq_true] at hB hq
    obtain ⟨⟨hr, hf⟩, hB'⟩ := hB
    have hr' : q ∈ Region.ready md ops listed := by simpa using hr
    obtain ⟨v, hy, hK⟩ := h
    have hqs : q < listed.size := by rw [inv.size]; exact (Array.getElem?_eq_some_iff.1 h0).1
    rw [List.length_cons, show l.length + 1 + c = (l.length + c) + 1 by omega]
    exact wpAnyO_pure (by omega) h0 (Region.noSelect_spec hsel) (fun c a w => hQ _ _ c a w) _ listed a w (Region.free_spec h0 hf) hr' hy
      (wpAnyO_pures hsel hQ hL hkm l (q + 1) _ _ (fun j hj => by have := hl (j + 1) (by simp; omega); simpa [Nat.add_assoc, Nat.add_comm 1 j] using this) (by omega) (inv.set hr' (by omega))
        (fun j hj => by
          by_cases e : q = j
          · subst e; simp [hqs]
          · rw [getD_set_ne true e]; exact hlow j (by omega)) hB' hK)

theorem wpAnyO_heads {k n m c : Nat} {L : Act → Prop} {g : Array Bool → Bool} {w : World} (hsel : Region.noSelect ops = true) (hQ : ∀ (d : Option Tmp) (v : Value) c a w, Q (.panic c) (a.put d v) w → Q (.panic c) a w)
    (hs : sinkFrom md ops k m = true) (hc : Region.chainB md ops m = true) (hm : m < ops.size) (hnm : n ≤ m) (hS : S w)
    (hL : ∀ listed a, g listed = true → L a → wpAnyO P md ops Q S k m c listed a w) :
    ∀ (l : List Oper) (q : Nat) (listed : Array Bool) (a : Act), (∀ j, j < l.length → l[j]? = ops[q + j]?) → k ≤ q → q + l.length = n → HeadInv md ops m listed → (∀ j, j < k → listed.getD j true = true) →
    headB md ops g l.length q listed = true → wpHold P ops S L l a → wpAnyO P md ops Q S k m (l.length + c) listed a w
  | [], _, listed, a, _, _, _, _, _, hB, h => by
    rw [List.length_nil, Nat.zero_add]
    exact hL listed a hB h
  | o :: l, q, listed, a, hl, hkq, hq, inv, hlow, hB, h => by
    have h0 : ops[q]? = some o := by simpa using (hl 0 (by simp)).symm
    simp only [List.length_cons, headB, Bool.and_eq_true] at hB hq
    obtain ⟨⟨hr, hf⟩, hB'⟩ := hB
    have hr' : q ∈ Region.ready md ops listed := by simpa using hr
    obtain ⟨v, hy, hK⟩ := h
    rw [List.length_cons, show l.length + 1 + c = (l.length + c) + 1 by omega]
    exact wpAnyO_first hkq (by omega) h0 (Region.noSelect_spec hsel) hs hc hm (fun c a w => hQ _ _ c a w) _ listed a w inv hlow (Region.free_spec h0 hf) hr' hy hS
      (wpAnyO_heads hsel hQ hs hc hm hnm hS hL l (q + 1) _ _ (fun j hj => by have := hl (j + 1) (by simp; omega); simpa [Nat.add_assoc, Nat.add_comm 1 j] using this) (by omega) (by omega) (inv.set hr' (by omega))
        (fun j hj => by rw [getD_set_ne true (by omega)]; exact hlow j hj) hB' hK)

/-- What the kernel looks at. -/
def holdB (md : Region.Mode) (ops : Array Oper) (k n m : Nat) : Bool :=
  Region.noSelect ops && decide (k ≤ n) && decide (n ≤ m) && decide (m < ops.size) && sinkFrom md ops k m && Region.chainB md ops m &&
    headB md ops (headB md ops (Region.seqB md ops (ops.size - n) n) (n - k) k) k 0 (Array.replicate ops.size false)

theorem wp_region_hold {id : Nat} {a : Act} {w : World} {l : List Oper} (k n m : Nat) (S : World → Prop) (hm : P.follows .mixedOrders = true) (hB : holdB .any l.toArray k n m = true)
    (hQ : ∀ (d : Option Tmp) (v : Value) c a w, Q (.panic c) (a.put d v) w → Q (.panic c) a w) (hS : S w.drew)
    (h : wpHold P l.toArray (fun _ => True) (wpHold P l.toArray S (fun a' => wpTail P l.toArray Q S m n (l.drop n) a' w.drew) ((l.take n).drop k)) (l.take k) a) : (Code.region id l.toArray true).wp P Q a w := by
  simp only [holdB, Bool.and_eq_true, decide_eq_true_eq] at hB
  obtain ⟨⟨⟨⟨⟨⟨hsel, hkn⟩, hnm⟩, hms⟩, hs⟩, hc⟩, hb⟩ := hB
  have hml : m < l.length := by simpa using hms
  have inv0 : HeadInv .any l.toArray m (Array.replicate l.toArray.size false) :=
    ⟨by simp, fun j oj _ hl => (by rw [getD_replicate_false] at hl; cases hl), fun t _ ht => getD_in (by simpa using ht) (getD_replicate_false _ _)⟩
  have lk : (l.take k).length = k := by simp; omega
  have ln : ((l.take n).drop k).length = n - k := by simp; omega
  have ld : (l.drop n).length = l.toArray.size - n := by simp
  have H := wpAnyO_pures (md := .any) (Q := Q) (S := S) (k := k) (m := m) (c := (n - k) + (l.toArray.size - n)) (w := w.drew) (g := headB .any l.toArray (Region.seqB .any l.toArray (l.toArray.size - n) n) (n - k) k)
    hsel hQ (fun listed a' inv hlow hg hL => by
      have := wpAnyO_heads (md := .any) (Q := Q) (S := S) (k := k) (n := n) (m := m) (c := l.toArray.size - n) (w := w.drew) (g := Region.seqB .any l.toArray (l.toArray.size - n) n) hsel hQ hs hc hms hnm hS
        (fun listed2 a2 hg2 hL2 => by
          have := wpAnyO_of_tail (md := .any) (Q := Q) (k := k) (l.drop n) n listed2 a2 w.drew (fun j => by simp [List.getElem?_drop]) (by rw [ld]; exact hg2) hL2
          rwa [ld] at this) ((l.take n).drop k) k listed a' (fun j hj => by
            rw [ln] at hj
            simp [show k + j < n by omega]) (Nat.le_refl _) (by rw [ln]; omega) inv hlow (by rw [ln]; exact hg) hL
      rwa [ln] at this) (by omega) (l.take k) 0 (Array.replicate l.toArray.size false) a (fun j hj => by
        rw [lk] at hj
        simp [hj]) (by rw [lk]; omega) inv0 (fun j hj => absurd hj (by omega)) (by rw [lk]; exact hb) h
  rw [lk, show k + ((n - k) + (l.toArray.size - n)) = l.toArray.size by omega] at H
  exact wp_region_any hm (wpAny_of_O _ _ _ _ H)

theorem wpHold_nil {L : Act → Prop} {a : Act} (h : L a) : wpHold P ops S L [] a := h
theorem wpHold_cons {L : Act → Prop} {o : Oper} {rest : List Oper} {a : Act} (hw : Region.wanted o (yielded ops a.tmps) = true)
    (h : ∀ K : Act → Prop, (∀ a, wpHold P ops S L rest a → K a) → ∃ v, (∀ W, S W → (execOp a.eval o).run P W = .ok (.value v) W) ∧ K (a.put o.dst v)) : wpHold P ops S L (o :: rest) a :=
  let ⟨v, hv, hK⟩ := h _ fun _ hh => hh
  ⟨v, .inl ⟨hw, hv⟩, hK⟩
theorem wpTail_hi {k m : Nat} {l : List Oper} {a : Act} {w : World} (hk : m ≤ k) (h : wpList P ops Q l a w) : wpTail P ops Q S m k l a w := by
  cases l with
  | nil => exact h
  | cons o l =>
    unfold wpTail
    rw [if_neg (by omega)]
    exact h
theorem wpTail_lo {k m : Nat} {o : Oper} {rest : List Oper} {a : Act} {w : World} (h0 : ops[k]? = some o) (hk : k < m) (hw : Region.wanted o (yielded ops a.tmps) = true)
    (h : o.wp P a w (fun a' w' => S w' ∧ wpTail P ops Q S m (k + 1) rest a' w') Q) : wpTail P ops Q S m k (o :: rest) a w := by
  unfold wpTail
  rw [if_pos hk]
  unfold wpOp
  simp only [h0]
  rw [if_pos hw]
  exact .inl h
theorem wpTail_buildSlice1 {k m : Nat} {t e : TypeId} {o : Oper} {rest : List Oper} {a : Act} {w : World} (ps : Array (Nat × Operand)) (ho : o.op = .buildSlice t 1 ps) (x : Value) (hvs : (ps.map fun (i, y) => (i, a.eval y)) = #[(0, x)])
    (h0 : ops[k]? = some o) (hk : k + 1 = m) (hw : Region.wanted o (yielded ops a.tmps) = true) {z : Value} {s : Nat} (ht : P.underlying t = some (.slice e)) (hz : ∀ W, (zeroValue e).run P W = .ok z W) (hi : (P.info? e).map (·.size) = some s) (hs0 : 0 < s) (h24 : s ≤ 2 ^ 24) (hx : x.cells.size = s)
    (h : ∀ (g : Nat) (W : World), W.heap[g]? = some (.cells x.cells e (0, 0)) → g < W.heap.size → w.heap.size ≤ g → Below w.heap.size w W → S W ∧ wpList P ops Q rest (a.put o.dst (.slice (some ⟨g, 0, none⟩) 1 1)) W) : wpTail P ops Q S m k (o :: rest) a w := by
  refine wpTail_lo h0 (by omega) hw ?_
  have hrun : (execOp a.eval o).run P w = .ok (.value (.slice (some ⟨w.heap.size, 0, none⟩) 1 1)) (w.alloc (.cells x.cells e)) := by
    unfold execOp
    simp only [ho, hvs, Sem.run_bind, run_buildSlice1 ht hz hi hs0 h24 x hx w, Result.andThen_ok, Sem.run_pure]
  unfold Oper.wp
  rw [hrun]
  have := h w.heap.size _ (heap_alloc_at _ _ rfl) (by simp) (Nat.le_refl _) ((Below.refl _ _).alloc (Nat.le_refl _) _)
  exact ⟨this.1, wpTail_hi (by omega) this.2⟩
theorem wp_region_holdX {id : Nat} {a : Act} {w : World} {l : List Oper} (k n m : Nat) (S : World → Prop) (hm : P.follows .mixedOrders = true) (hB : holdB .any l.toArray k n m = true)
    (hQ : ∀ (d : Option Tmp) (v : Value) c a w, Q (.panic c) (a.put d v) w → Q (.panic c) a w) (hS : S w.drew)
    (h : ∀ X, S X → wpHold P l.toArray (fun _ => True) (wpHold P l.toArray S (fun a' => wpTail P l.toArray Q S m n (l.drop n) a' X) ((l.take n).drop k)) (l.take k) a) : (Code.region id l.toArray true).wp P Q a w :=
  wp_region_hold k n m S hm hB hQ hS (h _ hS)
end
end Go.Cu
namespace Go.Proofs.Ythmchbdhikakhaa
open Go.RowKit Go.Cu
theorem size3 : (Try.prog.info? 3).map (·.size) = some 1 := by kernel_rfl
theorem size102 : (Try.prog.info? 102).map (·.size) = some 1 := by kernel_rfl
theorem size106 : (Try.prog.info? 106).map (·.size) = some 129 := by kernel_rfl
def zeroPut : Value := .agg (putL (0, zeroB)).toArray
set_option maxRecDepth 20000 in
theorem zero106 (W : World) : (zeroValue 106).run Try.prog W = .ok zeroPut W := by kernel_rfl
set_option maxRecDepth 20000 in
theorem info106 : (Try.prog.info? 106).map (fun i => (i.zero, i.size, i.bytes)) = some (some zeroPut, 129, 136) := by kernel_rfl
@[go_sem ↓] theorem bdk106 (a : Act) (dst : Option Tmp) (ps : Array (Nat × Operand)) (ty : TypeId) (pos : String) (after : Array Edge) (guard : Option (Nat × Bool)) :
    execOp a.eval { dst, op := .build 106 ps, type := ty, pos, after, guard } = buildK 106 (ps.map fun (i, x) => (i, a.eval x)) := rfl
theorem build106 (n : Nat) (b : Bk) (hb : b.length = 128) (w : World) : (buildK 106 #[(0, .int .i64 n), (1, .agg (bv b))]).run Try.prog w = .ok (.value (.agg (putL (n, b)).toArray)) w := by
  refine (run_buildK (run_build2 (z := zeroPut) (s0 := 1) (s1 := 128) Try.underlying106 zero106 size3 size33 rfl rfl ?_ _ _ rfl ?_ w)).trans ?_
  · show (putL (0, zeroB)).toArray.size = 129
    exact putL_size zeroB_len
  · exact (bv_size b).trans hb
  · congr 3
    apply Array.ext'
    simp [Value.cells, putL, bvL, bv]

set_option maxRecDepth 20000 in
set_option maxHeartbeats 1000000 in
theorem write_ok {p : Nat} {F : Nat → Prop} {S : DS} {w : World} {N : Nat} (h : DiskIn w p F S) (hok : S.Ok N) (hN : N ≤ 1000000) {n : Nat} (hz : S.at_ (n : Int) = 0) {b : Bk} (hb : b.length = 128) :
    Calls Try.prog 15 #[.pointer (some ⟨p, 0, none⟩), .int .i64 n, .agg (bv b)] w fun x w' => x = .returned (.int .i64 ((S.put n b).tick).2) ∧ DiskIn w' p (fun g => F g ∨ w.heap.size ≤ g) ((S.put n b).tick).1 ∧ Tch F w w' := by
  have ha := hid fun w' (hb : Below w.heap.size w w') => at_any (w := w') (h.below hb) hok n
  rw [hz] at ha
  obtain ⟨_, _, hlt⟩ := DS.at_zero hz
  have hbig := hok.big
  have hfew := hok.few
  have hwr0 := hok.writes0
  have hwr := hok.writes
  have har0 := hok.armed0
  have har := hok.armed
  have HF := hid (show Full S.now from hok.now)
  have HB := hid hb
  have HSB := hid ((bv_size b).trans hb)
  have HFW := hid (show FullW S.wait from fun q hq => (hok.wait q hq).2)
  have hbd := build106 n b hb
  obtain ⟨pn, pl, wv, hat⟩ := h
  clear hok hz hb
  go_enter Try.func15, Try.ntmps15
  repeat (apply wp_seq_k; intro _ _)
  apply wp_region_lit
  refine wpList_box rfl 33 _ rfl (.agg (bv b)) rfl ?_
  intro gb V0 hG hgb hgeb hW
  have H0 := hid (hat.below hW)
  have hpl := lt_of_heap hat.box
  have hnl := lt_of_heap hat.now
  have hX : Below V0.heap.size V0 V0 := Below.refl _ _
  have LB : ∀ X, Below V0.heap.size V0 X → (loadK 33 (.pointer (some ⟨gb, 0, none⟩))).run Try.prog X = .ok (.value (.agg (bv b))) X := fun X hb => run_loadK_box ((hb.block _ hgb).trans hG) Try.underlying33 rfl size33 HSB.out
  have L0 : ∀ X, Below V0.heap.size V0 X → X.cell? ⟨p, 0, none⟩ = some (.slice (some ⟨pn, 0, none⟩) S.now.length S.now.length) := fun X hb => (hb.cell (p := ⟨p, 0, none⟩) (Nat.lt_of_lt_of_le hpl hW.size)).trans ((cell_of_row V0 p 0 _ _ _ H0.out.box).trans rfl)
  go_wp2_with (go_at_call 57; refine (ha.out _ hW).mono ?_; rintro x w' ⟨rfl, rfl⟩)
  refine wp_region_class_tail 7 (fun X => Below V0.heap.size V0 X) (by kernel_rfl) (by kernel_rfl) (Below.drew hX) ?_
  clear hX
  simp only [List.take_succ_cons, List.take_zero, List.drop_succ_cons, List.drop_zero]
  repeat (refine wpQuiet_exK rfl (fun K hK => ?_); apply Exists.intro; refine And.intro (fun X hX => ?_) ?_; (· go_simp; (try go_bits); first | exact rfl | exact ⟨rfl, rfl⟩ | (rw [if_pos (by omega)]; exact ⟨rfl, rfl⟩)); go_simp; refine hK _ ?_; clear hK K)
  refine wpQuiet_nil (fun X hX => ?_)
  have hX0 := H0.out.below hX
  clear LB L0
  refine wpList_store_part 33 _ _ rfl pn (n * 128) rfl rfl (.agg (bv b)) rfl 128 size33 HSB.out (bv_one _) 33 _ hX0.now (by rw [flat_size HF.out]; omega) ?_
  intro V1 hN1 hT1 hs1
  replace hN1 : V1.heap[pn]? = some (.cells (flat (S.now.set n b)) 33 (0, 0)) := by
    rw [hN1]
    exact congrArg (fun c => some (Obj.cells c 33 (0, 0))) (flat_put HF.out (by omega) HB.out)
  have hpn : p ≠ pn := heap_ne hX0.box hX0.now (by decide)
  have hP1 := (hT1.block p (lt_of_heap hX0.box) hpn).trans hX0.box
  have hL1 := (hT1.block pl (lt_of_heap hX0.last) hX0.ne.symm).trans hX0.last
  have hwn := own_ne hX0.wait hX0.now (by decide)
  have hO1 := own_keep (W' := V1) hX0.wait (fun g hg => hT1.block g (own_lt hX0.wait hg) (fun e => hwn (by rw [hg]; exact congrArg some e)))
  have hTw1 : Tch F w V1 := by
    refine (Tch.of_below (F := F) (hW.trans (hX.mono hW.size))).trans hT1 (fun _ h => h) (fun i _ e => ?_)
    subst e
    exact H0.out.on
  have hG1 : V1.heap[gb]? = some (.cells (bv b) 33 (0, 0)) := (hT1.block gb (Nat.lt_of_lt_of_le hgb hX.size) (by show gb ≠ pn; omega)).trans ((hX.block gb hgb).trans hG)
  have hg1 := lt_of_heap hG1
  have hp1 := lt_of_heap hP1
  have HO := hid hO1
  have HP := hid hP1
  have HL := hid hL1
  have HNn := hid hN1
  have hnl' : pn < V1.heap.size := lt_of_heap hN1
  have hne := H0.out.ne
  have HFo := hid (And.intro H0.out.op (And.intro H0.out.on (And.intro H0.out.ol H0.out.ow)))
  clear hX hX0 H0 hT1 hs1 hG hat ha hO1 hP1 hL1 hN1
  have hX : Below V1.heap.size V1 V1 := Below.refl _ _
  have LB : ∀ X, Below V1.heap.size V1 X → (loadK 33 (.pointer (some ⟨gb, 0, none⟩))).run Try.prog X = .ok (.value (.agg (bv b))) X := fun X hb => run_loadK_box ((hb.block _ hg1).trans hG1) Try.underlying33 rfl size33 HSB.out
  have L2 : ∀ X, Below V1.heap.size V1 X → X.cell? ⟨p, 2, none⟩ = some wv := fun X hb => (hb.cell (p := ⟨p, 2, none⟩) hp1).trans ((cell_of_row V1 p 2 _ _ _ HP.out).trans rfl)
  go_wp2
  refine wp_region_holdX 1 8 9 (fun X => Below V1.heap.size V1 X) (by kernel_rfl) (by kernel_rfl) (fun d _ c _ _ h => by cases d <;> exact h) (Below.drew hX) (fun X hX1 => ?_)
  replace hX := hX1
  clear hX1
  simp only [List.take_succ_cons, List.take_zero, List.drop_succ_cons, List.drop_zero]
  (refine wpHold_cons rfl (fun K hK => ?_); apply Exists.intro; refine And.intro (fun X' hX' => ?_) ?_; (· go_simp; (try go_bits); first | done | exact rfl | exact ⟨rfl, rfl⟩); go_simp; refine hK _ ?_; clear hK K)
  refine wpHold_nil ?_
  repeat (refine wpHold_cons rfl (fun K hK => ?_); apply Exists.intro; refine And.intro (fun X' hX' => ?_) ?_; (· go_simp; (try go_bits); first | done | exact rfl | exact ⟨rfl, rfl⟩); go_simp; refine hK _ ?_; clear hK K)
  refine wpHold_nil ?_
  clear LB L2
  refine wpTail_buildSlice1 _ rfl (.agg (putL (n, b)).toArray) (by simp [Act.eval]) rfl rfl rfl Try.underlying102 zero106 size106 (by decide) (by decide) (putL_size HB.out) ?_
  intro gs X1 hS hgs hges hX1
  refine ⟨hX.trans (hX1.mono hX.size), ?_⟩
  obtain ⟨i0, hi, hiz, his, hib⟩ := info_parts info106
  have hOX := own_keep (W' := X1) HO.out (fun g hg => (hX1.block g (Nat.lt_of_lt_of_le (own_lt HO.out hg) hX.size)).trans (hX.block g (own_lt HO.out hg)))
  refine wpList_append_at _ _ _ rfl wv rfl ⟨gs, 0, none⟩ 1 1 rfl rfl 106 i0 zeroPut 129 136 Try.underlying102 hi hiz his hib (putL_size zeroB_len) (by decide) S.wait.length (waitL S.wait) hOX (putL (n, b)) ((putL_len HB.out).trans rfl) ?_ (putL_one _) (by unfold maxLen; omega) (by omega) ?_
  · intro j u hu
    have e : (⟨gs, 0, none⟩ : Addr).add j = ⟨gs, j, none⟩ := by unfold Addr.add; split <;> simp_all
    rw [e, cell_of_row X1 gs j _ _ _ hS]
    simpa [Value.cells] using hu
  intro v' V2 hO2 hT2 hfr
  have hXX : Below V1.heap.size V1 X1 := hX.trans (hX1.mono hX.size)
  have hk : ∀ {g : Nat}, g < V1.heap.size → wv.ownBlock ≠ some g → V2.heap[g]? = V1.heap[g]? := fun {g} hg hn => (hT2.block g (Nat.lt_of_lt_of_le hg hXX.size) hn).trans (hXX.block g hg)
  have HP2 := hid ((hk hp1 (own_ne HO.out HP.out (by decide))).trans HP.out)
  have HN2 := hid ((hk hnl' (own_ne HO.out HNn.out (by decide))).trans HNn.out)
  have HL2 := hid ((hk (lt_of_heap HL.out) (own_ne HO.out HL.out (by decide))).trans HL.out)
  have hT02 : Tch F w V2 := (hTw1.trans (Tch.of_below (F := F) hXX) (fun _ h => h) (fun _ _ h => h)).trans hT2 (fun _ h => h) (fun i _ e => HFo.out.2.2.2 i e)
  have hvb : ∀ g, v'.ownBlock = some g → F g ∨ w.heap.size ≤ g := by
    intro g hg
    rcases hfr with e | e
    · exact .inl (HFo.out.2.2.2 g (e.symm.trans hg))
    · have : g = X1.heap.size := by rw [hg] at e; exact Option.some.inj e
      have h2 := hTw1.size
      have h3 := hXX.size
      exact .inr (by omega)
  obtain ⟨A', c', rfl⟩ : ∃ A c, v' = .slice A (S.wait.length + 1) c := by
    rcases hO2.2 with ⟨_, h0⟩ | ⟨g, cap, cur, h0, _⟩
    · omega
    · exact ⟨_, _, h0⟩
  have HO2 := hid hO2
  have HVB := hid hvb
  clear hO2 hfr hk hXX hX1 hOX hT2 hX hS hgs hges hi hiz his hib hvb hG1
  have FIN := hid fun (W' : World) (wr ar : Int) (off : Bool) (hp : W'.heap[p]? = some (.cells #[.slice (some ⟨pn, 0, none⟩) S.now.length S.now.length, .slice (some ⟨pl, 0, none⟩) S.now.length S.now.length, .slice A' (S.wait.length + 1) c', .int .i64 wr, .int .i64 ar, .bool off] 104 (0, 0))) (ht : Tch (· = p) V2 W') =>
    (show DiskIn W' p (fun g => F g ∨ w.heap.size ≤ g) { now := S.now.set n b, last := S.last, wait := S.wait ++ [(n, b)], writes := wr, armed := ar, off := off } ∧ Tch F w W' from by
      have hpn2 : pn ≠ p := heap_ne HN2.out HP2.out (by decide)
      have hpl2 : pl ≠ p := heap_ne HL2.out HP2.out (by decide)
      refine ⟨⟨pn, pl, .slice A' (S.wait.length + 1) c', .inl HFo.out.1, .inl HFo.out.2.1, .inl HFo.out.2.2.1, HVB.out, hne, ?_, ?_, ?_, ?_⟩, hT02.trans ht (fun _ h => h) (fun i _ e => by subst e; exact HFo.out.1)⟩
      · simpa using hp
      · exact (ht.block pn (lt_of_heap HN2.out) hpn2).trans HN2.out
      · exact (ht.block pl (lt_of_heap HL2.out) hpl2).trans HL2.out
      · simp only [List.length_append, List.length_singleton, waitL_snoc]
        exact own_keep HO2.out (fun g hg => ht.block g (own_lt HO2.out hg) (fun e => own_ne HO2.out HP2.out (by decide) (by rw [hg]; exact congrArg some e))))
  have c2 : V2.cell? ⟨p, 2, none⟩ = some wv := (cell_of_row V2 p 2 _ _ _ HP2.out).trans rfl
  have c3 : V2.cell? ⟨p, 3, none⟩ = some (.int .i64 S.writes) := (cell_of_row V2 p 3 _ _ _ HP2.out).trans rfl
  have c4 : V2.cell? ⟨p, 4, none⟩ = some (.int .i64 S.armed) := (cell_of_row V2 p 4 _ _ _ HP2.out).trans rfl
  have c5 : V2.cell? ⟨p, 5, none⟩ = some (.bool S.off) := (cell_of_row V2 p 5 _ _ _ HP2.out).trans rfl
  have f2 : V2.frozen? ⟨p, 2, none⟩ = false := frozen_of_row V2 p 2 _ _ HP2.out
  have f3 : V2.frozen? ⟨p, 3, none⟩ = false := frozen_of_row V2 p 3 _ _ HP2.out
  have f4 : V2.frozen? ⟨p, 4, none⟩ = false := frozen_of_row V2 p 4 _ _ HP2.out
  have f5 : V2.frozen? ⟨p, 5, none⟩ = false := frozen_of_row V2 p 5 _ _ HP2.out
  have P2 := hid (heap_setCell_same V2 p 2 _ 104 (.slice A' (S.wait.length + 1) c') HP2.out)
  have P3 := hid (heap_setCell_same _ p 3 _ 104 (.int .i64 (S.writes + 1)) P2.out)
  have T3 := hid (((Tch.refl (· = p) V2).setCell (g := p) (i := 2) rfl (.slice A' (S.wait.length + 1) c')).setCell (g := p) (i := 3) rfl (.int .i64 (S.writes + 1)))
  have P4 := hid (heap_setCell_same _ p 4 _ 104 (.int .i64 (S.armed - 1)) P3.out)
  have T4 := hid (T3.out.setCell (g := p) (i := 4) rfl (.int .i64 (S.armed - 1)))
  by_cases h0 : S.armed = 0
  · have b0 : (S.armed == 0) = true := by simpa using h0
    have HE := hid (DS.put_tick0 (n := n) (b := b) h0)
    clear h0 har0 har
    go_wp2
    go_ret
    rw [HE.out]
    exact ⟨rfl, FIN.out _ _ _ _ (P3.out.trans rfl) T3.out⟩
  · have b0 : (S.armed == 0) = false := by simpa using h0
    by_cases h1 : 0 < S.armed - 1
    · have HE := hid (DS.put_tick1 (n := n) (b := b) h0 h1)
      clear h0
      go_wp2
      go_ret
      rw [HE.out]
      exact ⟨rfl, FIN.out _ _ _ _ (P4.out.trans rfl) T4.out⟩
    · have HE := hid (DS.put_tick2 (n := n) (b := b) h0 h1)
      have h2 : S.armed = 1 := by omega
      have E := hid (show S.armed - 1 = 0 by omega)
      have P4 := hid (heap_setCell_same _ p 4 _ 104 (.int .i64 0) P3.out)
      have T4 := hid (T3.out.setCell (g := p) (i := 4) rfl (.int .i64 0))
      have P5 := hid (heap_setCell_same _ p 5 _ 104 (.bool true) P4.out)
      have T5 := hid (T4.out.setCell (g := p) (i := 5) rfl (.bool true))
      rw [h2] at c4 b0
      clear h0 h1 har0 har h2
      go_wp2
      go_ret
      rw [HE.out, E.out]
      exact ⟨rfl, FIN.out _ _ _ _ (P5.out.trans rfl) T5.out⟩
end Go.Proofs.Ythmchbdhikakhaa
/- What a disk tells of itself, and arming it. -/
namespace Go.Proofs.Ythmchbdhikakhaa
open Go.RowKit Go.Cu

set_option maxHeartbeats 400000 in
theorem down_nil (w : World) : Calls Try.prog 25 #[.pointer none] w fun e w' => e = .returned (.bool true) ∧ w = w' := by
  go_enter Try.func25, Try.ntmps25
  go_wp2
  go_ret
  exact ⟨rfl, rfl⟩
set_option maxHeartbeats 400000 in
theorem down_any {p : Nat} {F : Nat → Prop} {S : DS} {w : World} (h : DiskIn w p F S) : Calls Try.prog 25 #[.pointer (some ⟨p, 0, none⟩)] w fun e w' => e = .returned (.bool S.off) ∧ w = w' := by
  obtain ⟨pn, pl, wv, _, _, _, _, h5, _⟩ := h.cells
  clear h
  go_enter Try.func25, Try.ntmps25
  go_wp2
  go_ret
  exact ⟨rfl, rfl⟩
set_option maxHeartbeats 400000 in
theorem writes_nil (w : World) : Calls Try.prog 26 #[.pointer none] w fun e w' => e = .returned (.int .i64 0) ∧ w = w' := by
  go_enter Try.func26, Try.ntmps26
  go_wp2
  go_ret
  exact ⟨rfl, rfl⟩
set_option maxHeartbeats 400000 in
theorem writes_any {p : Nat} {F : Nat → Prop} {S : DS} {w : World} (h : DiskIn w p F S) : Calls Try.prog 26 #[.pointer (some ⟨p, 0, none⟩)] w fun e w' => e = .returned (.int .i64 S.writes) ∧ w = w' := by
  obtain ⟨pn, pl, wv, _, _, h3, _, _, _⟩ := h.cells
  clear h
  go_enter Try.func26, Try.ntmps26
  go_wp2
  go_ret
  exact ⟨rfl, rfl⟩
set_option maxHeartbeats 400000 in
theorem size_nil (w : World) : Calls Try.prog 29 #[.pointer none] w fun e w' => e = .returned (.int .i64 0) ∧ w = w' := by
  go_enter Try.func29, Try.ntmps29
  go_wp2
  go_ret
  exact ⟨rfl, rfl⟩
set_option maxHeartbeats 400000 in
theorem size_any {p : Nat} {F : Nat → Prop} {S : DS} {w : World} (h : DiskIn w p F S) : Calls Try.prog 29 #[.pointer (some ⟨p, 0, none⟩)] w fun e w' => e = .returned (.int .i64 S.now.length) ∧ w = w' := by
  obtain ⟨pn, pl, wv, h0, _, _, _, _, _⟩ := h.cells
  clear h
  go_enter Try.func29, Try.ntmps29
  go_wp2
  go_ret
  exact ⟨rfl, rfl⟩
set_option maxHeartbeats 400000 in
theorem waiting_nil (w : World) : Calls Try.prog 27 #[.pointer none] w fun e w' => e = .returned (.int .i64 0) ∧ w = w' := by
  go_enter Try.func27, Try.ntmps27
  go_wp2
  go_ret
  exact ⟨rfl, rfl⟩
theorem own_slice {W : World} {b e s n : Nat} {v : Value} {xs : List Value} (h : W.ownsRow b e s v n xs) : ∃ A c, v = .slice A n c := by
  rcases h.2 with ⟨rfl, rfl⟩ | ⟨g, c, cur, rfl, _⟩
  · exact ⟨_, _, rfl⟩
  · exact ⟨_, _, rfl⟩
set_option maxHeartbeats 400000 in
theorem waiting_any {p : Nat} {F : Nat → Prop} {S : DS} {w : World} (h : DiskIn w p F S) : Calls Try.prog 27 #[.pointer (some ⟨p, 0, none⟩)] w fun e w' => e = .returned (.int .i64 S.wait.length) ∧ w = w' := by
  obtain ⟨pn, pl, wv, _, h2, _, _, _, hat⟩ := h.cells
  obtain ⟨A, c, rfl⟩ := own_slice hat.wait
  clear h hat
  go_enter Try.func27, Try.ntmps27
  go_wp2
  go_ret
  exact ⟨rfl, rfl⟩
set_option maxHeartbeats 400000 in
theorem arm_nil (i : Int) (w : World) : Calls Try.prog 23 #[.pointer none, .int .i64 i] w fun e w' => e = .returned (.tuple #[]) ∧ w = w' := by
  go_enter Try.func23, Try.ntmps23
  go_wp2
  exact bodyPost_end (results_none rfl _ _ _) rfl ⟨rfl, rfl⟩
set_option maxHeartbeats 400000 in
theorem arm_any {p : Nat} {F : Nat → Prop} {S : DS} {w : World} (h : DiskIn w p F S) (i : Int) : Calls Try.prog 23 #[.pointer (some ⟨p, 0, none⟩), .int .i64 i] w fun e w' => e = .returned (.tuple #[]) ∧ DiskIn w' p F (S.arm i) ∧ Tch F w w' := by
  obtain ⟨pn, pl, wv, h⟩ := h
  have f4 : w.frozen? ⟨p, 4, none⟩ = false := frozen_of_row w p 4 _ _ h.box
  have c4 : w.cell? ⟨p, 4, none⟩ = some (.int .i64 S.armed) := (cell_of_row w p 4 _ _ _ h.box).trans rfl
  have P4 := hid (heap_setCell_same w p 4 _ 104 (.int .i64 (max i 0)) h.box)
  have T4 := hid ((Tch.refl (· = p) w).setCell (g := p) (i := 4) rfl (.int .i64 (max i 0)))
  have FIN := hid fun (W' : World) (hp : W'.heap[p]? = some (.cells #[.slice (some ⟨pn, 0, none⟩) S.now.length S.now.length, .slice (some ⟨pl, 0, none⟩) S.now.length S.now.length, wv, .int .i64 S.writes, .int .i64 (max i 0), .bool S.off] 104 (0, 0))) (ht : Tch (· = p) w W') =>
    (show DiskIn W' p F (S.arm i) ∧ Tch F w W' from by
      have hpn2 : pn ≠ p := heap_ne h.now h.box (by decide)
      have hpl2 : pl ≠ p := heap_ne h.last h.box (by decide)
      refine ⟨⟨pn, pl, wv, h.op, h.on, h.ol, h.ow, h.ne, hp, ?_, ?_, ?_⟩, (Tch.refl F w).trans ht (fun _ h => h) (fun i _ e => by subst e; exact h.op)⟩
      · exact (ht.block pn (lt_of_heap h.now) hpn2).trans h.now
      · exact (ht.block pl (lt_of_heap h.last) hpl2).trans h.last
      · exact own_keep h.wait (fun g hg => ht.block g (own_lt h.wait hg) (fun e => own_ne h.wait h.box (by decide) (by rw [hg]; exact congrArg some e))))
  clear h
  go_enter Try.func23, Try.ntmps23
  go_wp2
  · have e : max i 0 = 0 := by omega
    rw [e] at P4 T4
    rw [e] at FIN
    exact bodyPost_end (results_none rfl _ _ _) rfl ⟨rfl, FIN.out _ (P4.out.trans rfl) T4.out⟩
  · have e : max i 0 = i := by omega
    rw [e] at P4 T4
    rw [e] at FIN
    exact bodyPost_end (results_none rfl _ _ _) rfl ⟨rfl, FIN.out _ (P4.out.trans rfl) T4.out⟩
end Go.Proofs.Ythmchbdhikakhaa
/- What is there now is what lasts, with what was written since laid over it: plainly. No program. -/
namespace Go.Cu
theorem lastOf_snocT (kept : Nat → Bool) (p : Nat × Blk8) : ∀ (l : List (Nat × Blk8)) (k : Nat) (L : List Blk8), lastOf kept k (l ++ [p]) L = if kept (k + l.length) then (lastOf kept k l L).set p.1 p.2 else lastOf kept k l L
  | [], k, L => by simp [lastOf]
  | q :: l, k, L => by
    simp only [List.cons_append, lastOf, List.length_cons]
    rw [lastOf_snocT kept p l]
    simp only [Nat.add_assoc, Nat.add_comm 1]
/-- The writes laid over what lasts. -/
def over (l : List (Nat × Blk8)) (L : List Blk8) : List Blk8 := lastOf (fun _ => true) 0 l L
theorem over_nil (L : List Blk8) : over [] L = L := rfl
theorem over_snoc (l : List (Nat × Blk8)) (p : Nat × Blk8) (L : List Blk8) : over (l ++ [p]) L = (over l L).set p.1 p.2 := by
  unfold over; rw [lastOf_snocT]; simp
theorem over_len (l : List (Nat × Blk8)) (L : List Blk8) : (over l L).length = L.length := lastOf_len _ _ _ _
theorem lastOf_other (kept : Nat → Bool) (j : Nat) : ∀ (l : List (Nat × Blk8)) (k : Nat) (L : List Blk8), (∀ p ∈ l, p.1 ≠ j) → (lastOf kept k l L)[j]? = L[j]?
  | [], _, _, _ => rfl
  | p :: l, k, L, h => by
    rw [lastOf, lastOf_other kept j l (k + 1) _ (fun q hq => h q (by simp [hq]))]
    split
    · rw [List.getElem?_set_ne (h p (by simp))]
    · rfl
theorem nowOf_other (M : List Blk8) (j : Nat) : ∀ (l : List (Nat × Blk8)) (N : List Blk8), (∀ p ∈ l, p.1 ≠ j) → (nowOf M l N)[j]? = N[j]?
  | [], _, _ => rfl
  | p :: l, N, h => by
    rw [nowOf, nowOf_other M j l _ (fun q hq => h q (by simp [hq])), List.getElem?_set_ne (h p (by simp))]
theorem nowOf_hit (M : List Blk8) (j : Nat) : ∀ (l : List (Nat × Blk8)) (N : List Blk8), j < N.length → N[j]? = some (M.getD j zeroB) → (nowOf M l N)[j]? = some (M.getD j zeroB)
  | [], _, _, h => h
  | p :: l, N, hj, h => by
    rw [nowOf]
    refine nowOf_hit M j l _ (by simpa using hj) ?_
    by_cases e : p.1 = j
    · rw [e, List.getElem?_set_self hj]
    · rw [List.getElem?_set_ne e, h]
theorem nowOf_in (M : List Blk8) (j : Nat) : ∀ (l : List (Nat × Blk8)) (N : List Blk8), j < N.length → (∃ p ∈ l, p.1 = j) → (nowOf M l N)[j]? = some (M.getD j zeroB)
  | [], _, _, h => by obtain ⟨p, hp, _⟩ := h; cases hp
  | p :: l, N, hj, h => by
    rw [nowOf]
    by_cases e : p.1 = j
    · refine nowOf_hit M j l _ (by simpa using hj) ?_
      rw [e, List.getElem?_set_self hj]
    · refine nowOf_in M j l _ (by simpa using hj) ?_
      obtain ⟨q, hq, he⟩ := h
      rcases List.mem_cons.1 hq with rfl | h2
      · exact absurd he e
      · exact ⟨q, h2, he⟩
structure DS.Tied (S : DS) : Prop where
  now : S.now = over S.wait S.last
theorem DS.Tied.new (n : Nat) : (DS.new n).Tied := ⟨rfl⟩
theorem DS.Tied.put {S : DS} (h : S.Tied) (i : Nat) (b : Blk8) : (S.put i b).Tied := ⟨by simp only [DS.put]; rw [over_snoc, ← h.now]⟩
theorem DS.Tied.tick {S : DS} (h : S.Tied) : S.tick.1.Tied := by
  unfold DS.tick
  split
  · exact h
  · split <;> exact ⟨h.now⟩
theorem DS.Tied.write {S : DS} (h : S.Tied) (i : Int) (b : Blk8) : (S.write i b).1.Tied := by
  unfold DS.write
  split
  · exact h
  · exact (h.put _ _).tick
/-- Behind a settling what is there is what lasts. -/
theorem settle_now {S : DS} (h : S.Tied) (hl : S.last.length = S.now.length) (kept : Nat → Bool) : (S.settle kept).now = (S.settle kept).last := by
  simp only [DS.settle]
  have hlen : (lastOf kept 0 S.wait S.last).length = S.now.length := (lastOf_len _ _ _ _).trans hl
  refine List.ext_getElem? fun j => ?_
  rcases Nat.lt_or_ge j S.now.length with hj | hj
  · by_cases hw : ∃ p ∈ S.wait, p.1 = j
    · rw [nowOf_in _ j _ _ hj hw, List.getD_eq_getElem?_getD, List.getElem?_eq_getElem (by omega)]
      rfl
    · have hw' : ∀ p ∈ S.wait, p.1 ≠ j := fun p hp e => hw ⟨p, hp, e⟩
      rw [nowOf_other _ j _ _ hw', lastOf_other _ j _ _ _ hw', h.now]
      exact lastOf_other _ j _ _ _ hw'
  · rw [List.getElem?_eq_none (by rw [nowOf_len]; exact hj), List.getElem?_eq_none (by omega)]
theorem DS.Tied.settle {S : DS} (h : S.Tied) (hl : S.last.length = S.now.length) (kept : Nat → Bool) : (S.settle kept).Tied := ⟨settle_now h hl kept⟩
theorem DS.Tied.sync {S : DS} (h : S.Tied) (hl : S.last.length = S.now.length) : S.sync.1.Tied := by
  unfold DS.sync
  split
  · exact h
  · exact h.settle hl _
theorem DS.Tied.crash {S : DS} (h : S.Tied) (hl : S.last.length = S.now.length) (keep : List Bool) : (S.crash keep).Tied := ⟨settle_now h hl _⟩
theorem DS.Tied.arm {S : DS} (h : S.Tied) (n : Int) : (S.arm n).Tied := ⟨h.now⟩
/-- The value of a place behind so many of the writes. -/
theorem over_step {l : List (Nat × Blk8)} {k : Nat} {p : Nat × Blk8} (h : l[k]? = some p) (L : List Blk8) (i : Nat) (hi : i < L.length) :
    (over (l.take (k + 1)) L).getD i zeroB = if p.1 = i then p.2 else (over (l.take k) L).getD i zeroB := by
  have e : l.take (k + 1) = l.take k ++ [p] := by rw [List.take_add_one, h]; rfl
  rw [e, over_snoc, List.getD_eq_getElem?_getD, List.getD_eq_getElem?_getD]
  split
  · rename_i e; rw [e, List.getElem?_set_self (by rw [over_len]; exact hi)]; rfl
  · rename_i e; rw [List.getElem?_set_ne e]
end Go.Cu
/- A region that draws its order, walked in an order of one's own: what yields in every world of a class may be taken first; what turns the world comes when it alone may come. -/
namespace Go.Cu
open Go Go.RowKit
section
variable {P : Program} {ops : Array Oper} {Q : Exit → Act → World → Prop} {md : Region.Mode} {S : World → Prop} {loose : List Nat}

/-- Whatever order is picked; S holds behind each but the loose ones. -/
def wpAnyN (P : Program) (md : Region.Mode) (ops : Array Oper) (Q : Exit → Act → World → Prop) (S : World → Prop) (loose : List Nat) : Nat → Array Bool → Act → World → Prop
  | 0, listed, a, w => Region.ready md ops listed = [] ∧ Q .normal a w
  | fuel + 1, listed, a, w =>
    (Region.ready md ops listed = [] → Q .normal a w) ∧
    ∀ i ∈ Region.ready md ops listed, wpOp P ops Q i (fun a' w' => (loose.contains i = false → S w') ∧ wpAnyN P md ops Q S loose fuel (listed.setIfInBounds i true) a' w') a w
theorem wpAny_of_N : ∀ (fuel : Nat) (listed : Array Bool) (a : Act) (w : World), wpAnyN P md ops Q S loose fuel listed a w → wpAny P md ops Q fuel listed a w
  | 0, _, _, _, h => h
  | fuel + 1, _, _, _, h => ⟨h.1, fun i hi => wpOp_mono (fun a' w' h' => wpAny_of_N fuel _ a' w' h'.2) (h.2 i hi)⟩

structure OInv (md : Region.Mode) (ops : Array Oper) (listed : Array Bool) : Prop where
  size : listed.size = ops.size
  closed : ∀ (j : Nat) oj, ops[j]? = some oj → listed.getD j false = true → ∀ e ∈ oj.after, Region.binds md e = true → listed.getD e.on false = true
theorem OInv.set {i : Nat} {listed : Array Bool} (inv : OInv md ops listed) (hi : i ∈ Region.ready md ops listed) : OInv md ops (listed.setIfInBounds i true) := by
  obtain ⟨_, oi, hoi, hall⟩ := mem_ready.1 hi
  refine ⟨by simp [inv.size], fun j oj hj hl e he hb => ?_⟩
  by_cases hij : i = j
  · subst hij
    have : oj = oi := Option.some.inj (hj.symm.trans hoi)
    subst this
    exact getD_set_true (hall e he hb)
  · rw [getD_set_ne false hij] at hl
    exact getD_set_true (inv.closed j oj hj hl e he hb)
theorem OInv.start : OInv md ops (Array.replicate ops.size false) := ⟨by simp, fun j oj _ hl => (by rw [getD_replicate_false] at hl; cases hl)⟩

/-- Those of D wait for number i. -/
def waitB (md : Region.Mode) (ops : Array Oper) (i : Nat) (D : List Nat) : Bool :=
  D.all fun j => match ops[j]? with | none => false | some oj => oj.after.any fun e => Region.binds md e && (e.on == i || (decide (e.on < j) && D.contains e.on))
def waitOf (md : Region.Mode) (ops : Array Oper) (i : Nat) : List Nat :=
  (List.range ops.size).foldl (fun D j => match ops[j]? with | none => D | some oj => if oj.after.any (fun e => Region.binds md e && (e.on == i || D.contains e.on)) then j :: D else D) []
theorem wait_edge {i j : Nat} {D : List Nat} (hD : waitB md ops i D = true) (hj : j ∈ D) : ∃ oj, ops[j]? = some oj ∧ ∃ e ∈ oj.after, Region.binds md e = true ∧ (e.on = i ∨ e.on < j ∧ e.on ∈ D) := by
  have h := List.all_eq_true.1 hD j hj
  cases ho : ops[j]? with
  | none => simp [ho] at h
  | some oj =>
    simp only [ho] at h
    obtain ⟨e, he, h2⟩ := Array.any_eq_true'.1 h
    simp only [Bool.and_eq_true, Bool.or_eq_true, beq_iff_eq, decide_eq_true_eq, List.contains_iff_mem] at h2
    exact ⟨oj, rfl, e, he, h2.1, h2.2⟩
theorem wait_unlisted {i : Nat} {D : List Nat} {listed : Array Bool} (hD : waitB md ops i D = true) (inv : OInv md ops listed) (hi : listed.getD i true = false) : ∀ (j : Nat), j ∈ D → listed.getD j false = false := by
  intro j
  induction j using Nat.strongRecOn with
  | _ j ih =>
    intro hj
    cases hl : listed.getD j false with
    | false => rfl
    | true =>
      obtain ⟨oj, hoj, e, he, hb, h⟩ := wait_edge hD hj
      have h1 := inv.closed j oj hoj hl e he hb
      rcases h with h | ⟨h, h2⟩
      · rw [h, getD_both hi] at h1; cases h1
      · rw [ih _ h h2] at h1; cases h1
theorem wait_unready {i j : Nat} {D : List Nat} {listed : Array Bool} (hD : waitB md ops i D = true) (inv : OInv md ops listed) (hi : listed.getD i true = false) (hj : j ∈ D) : j ∉ Region.ready md ops listed := by
  intro hr
  obtain ⟨_, ot, hot, hall⟩ := mem_ready.1 hr
  obtain ⟨oj, hoj, e, he, hb, h⟩ := wait_edge hD hj
  have : oj = ot := Option.some.inj (hoj.symm.trans hot)
  subst this
  have h1 := hall e he hb
  rcases h with h | ⟨_, h2⟩
  · rw [h, getD_both hi] at h1; cases h1
  · rw [wait_unlisted hD inv hi _ h2] at h1; cases h1

theorem after_not {i : Nat} {oj : Oper} {listed : Array Bool} (hun : listed.getD i true = false) (hall : ∀ e ∈ oj.after, Region.binds md e = true → listed.getD e.on false = true) : ∀ e ∈ oj.after, Region.binds md e = true → e.on ≠ i := fun e he hb heq => by
  have h1 := hall e he hb
  rw [heq, getD_both hun] at h1
  cases h1
theorem set_free {i j : Nat} {oi : Oper} {listed : Array Bool} (hjun : listed.getD j true = false)
    (hfree : ∀ j oj, ops[j]? = some oj → j ≠ i → listed.getD j true = false → (∀ e ∈ oj.after, Region.binds md e = true → e.on ≠ i) → oi.apart ops oj = true) :
    ∀ k ok, ops[k]? = some ok → k ≠ i → (listed.setIfInBounds j true).getD k true = false → (∀ e ∈ ok.after, Region.binds md e = true → e.on ≠ i) → oi.apart ops ok = true := fun k ok hk hki hun hno => by
  refine hfree k ok hk hki ?_ hno
  by_cases hjk : j = k
  · subst hjk; exact hjun
  · rw [getD_set_ne true hjk] at hun; exact hun

/-- One that yields whatever the world may be taken first. -/
theorem wpAnyN_pure {i : Nat} {oi : Oper} {v : Value} (hi : ops[i]? = some oi) (hsel : ∀ (j : Nat) (o : Oper) cs b, ops[j]? = some o → o.op ≠ .select cs b)
    (hQ : ∀ c a w, Q (.panic c) (a.put oi.dst v) w → Q (.panic c) a w) (hS : loose.contains i = true) :
    ∀ (fuel : Nat) (listed : Array Bool) (a : Act) (w : World),
      (∀ j oj, ops[j]? = some oj → j ≠ i → listed.getD j true = false → (∀ e ∈ oj.after, Region.binds md e = true → e.on ≠ i) → oi.apart ops oj = true) →
      i ∈ Region.ready md ops listed → YieldsIf P ops (fun _ => True) oi v a →
      wpAnyN P md ops Q S loose fuel (listed.setIfInBounds i true) (a.put oi.dst v) w → wpAnyN P md ops Q S loose (fuel + 1) listed a w := by
  intro fuel
  induction fuel with
  | zero =>
    intro listed a w _ hr hy H
    refine ⟨fun h => (by rw [h] at hr; cases hr), fun j hj => ?_⟩
    by_cases hji : j = i
    · subst hji; exact hy.wpOp hi trivial ⟨fun h => (by rw [hS] at h; cases h), H⟩
    · have := ready_mono hj hji
      rw [H.1] at this
      cases this
  | succ fuel ih =>
    intro listed a w hfree hr hy H
    have hun := (mem_ready.1 hr).1
    refine ⟨fun h => (by rw [h] at hr; cases hr), fun j hj => ?_⟩
    by_cases hji : j = i
    · subst hji; exact hy.wpOp hi trivial ⟨fun h => (by rw [hS] at h; cases h), H⟩
    · have h1 := H.2 j (ready_mono hj hji)
      obtain ⟨hjun, oj, hoj, hall⟩ := mem_ready.1 hj
      have h2 := wpOp_putIf hoj (hfree j oj hoj hji hjun (after_not hun hall)) (fun cs b => hsel i oi cs b hi) (fun cs b => hsel j oj cs b hoj) hQ hy h1
      refine wpOp_mono (fun a' w' h3 => ⟨h3.2.1, ih (listed.setIfInBounds j true) a' w' (set_free hjun hfree) (ready_mono hr (Ne.symm hji)) h3.1 ?_⟩) h2
      rw [Array.setIfInBounds_comm _ _ hji]
      exact h3.2.2

/-- One that yields in every world of the class may be taken first. -/
theorem wpAnyN_first {i : Nat} {oi : Oper} {v : Value} {D : List Nat} (hi : ops[i]? = some oi) (hsel : ∀ (j : Nat) (o : Oper) cs b, ops[j]? = some o → o.op ≠ .select cs b)
    (hD : waitB md ops i D = true) (hQ : ∀ c a w, Q (.panic c) (a.put oi.dst v) w → Q (.panic c) a w) :
    ∀ (fuel : Nat) (listed : Array Bool) (a : Act) (w : World), OInv md ops listed → (∀ j, j < ops.size → listed.getD j true = false → j ≠ i → loose.contains j = true → j ∈ D) →
      (∀ j oj, ops[j]? = some oj → j ≠ i → listed.getD j true = false → (∀ e ∈ oj.after, Region.binds md e = true → e.on ≠ i) → oi.apart ops oj = true) →
      i ∈ Region.ready md ops listed → YieldsIf P ops S oi v a → S w →
      wpAnyN P md ops Q S loose fuel (listed.setIfInBounds i true) (a.put oi.dst v) w → wpAnyN P md ops Q S loose (fuel + 1) listed a w := by
  intro fuel
  induction fuel with
  | zero =>
    intro listed a w _ _ _ hr hy hS H
    refine ⟨fun h => (by rw [h] at hr; cases hr), fun j hj => ?_⟩
    by_cases hji : j = i
    · subst hji; exact hy.wpOp hi hS ⟨fun _ => hS, H⟩
    · have := ready_mono hj hji
      rw [H.1] at this
      cases this
  | succ fuel ih =>
    intro listed a w inv hneed hfree hr hy hS H
    have hun := (mem_ready.1 hr).1
    refine ⟨fun h => (by rw [h] at hr; cases hr), fun j hj => ?_⟩
    by_cases hji : j = i
    · subst hji; exact hy.wpOp hi hS ⟨fun _ => hS, H⟩
    · have h1 := H.2 j (ready_mono hj hji)
      obtain ⟨hjun, oj, hoj, hall⟩ := mem_ready.1 hj
      have hl : loose.contains j = false := by
        cases hl : loose.contains j with
        | false => rfl
        | true => exact absurd hj (wait_unready hD inv hun (hneed j (Array.getElem?_eq_some_iff.1 hoj).1 hjun hji hl))
      have h2 := wpOp_putIf hoj (hfree j oj hoj hji hjun (after_not hun hall)) (fun cs b => hsel i oi cs b hi) (fun cs b => hsel j oj cs b hoj) hQ hy h1
      refine wpOp_mono (fun a' w' h3 => ⟨h3.2.1, ih (listed.setIfInBounds j true) a' w' (inv.set hj) (fun k hk hku => hneed k hk (by
        by_cases hjk : j = k
        · subst hjk; exact hjun
        · rw [getD_set_ne true hjk] at hku; exact hku)) (set_free hjun hfree) (ready_mono hr (Ne.symm hji)) h3.1 (h3.2.1 hl) ?_⟩) h2
      rw [Array.setIfInBounds_comm _ _ hji]
      exact h3.2.2

/-- What comes behind one operation. -/
def Qn (Q : Exit → Act → World → Prop) (N : Act → World → Prop) : Exit → Act → World → Prop
  | .normal, a, w => N a w
  | x, a, w => Q x a w
theorem wpOp_of_one {i : Nat} {o : Oper} {N : Act → World → Prop} {a : Act} {w : World} (hi : ops[i]? = some o) (h : wpList P ops (Qn Q N) [o] a w) : wpOp P ops Q i N a w := by
  unfold wpOp
  simp only [hi]
  unfold wpList at h
  have e : (fun a w => wpList P ops (Qn Q N) [] a w) = N := rfl
  split at h
  · rename_i hw
    rw [if_pos hw]
    rcases h with h | ⟨h, a', w', hl⟩
    · refine .inl ?_
      unfold Oper.wp at *
      generalize (execOp a.eval o).run P w = r at *
      cases r with
      | ok n w' =>
        cases n <;> simp only [Oper.upon] at h ⊢
        case value u => exact h
        case skip => exact h
        case defer d => exact h
        case enter f args =>
          refine Calls.mono h fun e w'' he => ?_
          cases e with
          | returned u => exact he
          | panicked c => exact he
          | outgrown =>
            obtain ⟨a', w', hl⟩ := he
            exact ⟨a', w', hl⟩
        case row row args => exact Rows.mono h fun u w'' he => he
      | halt x w' =>
        cases x <;> simp only [Oper.upon] at h ⊢
        case panic u => exact h
    · exact .inr ⟨h, a', w', hl⟩
  · rename_i hw
    rw [if_neg hw]
    exact h

/-- An order of one's own: (number, 0: yields whatever the world; 1: in every world of the class; 2: comes alone). -/
def wpOrd (P : Program) (ops : Array Oper) (Q : Exit → Act → World → Prop) (S : World → Prop) (loose : List Nat) : List (Nat × Nat) → Act → World → Prop
  | [], a, w => Q .normal a w
  | (i, 0) :: r, a, w => ∃ o, ops[i]? = some o ∧ ∃ v, YieldsIf P ops (fun _ => True) o v a ∧ wpOrd P ops Q S loose r (a.put o.dst v) w
  | (i, 1) :: r, a, w => ∃ o, ops[i]? = some o ∧ ∃ v, YieldsIf P ops S o v a ∧ wpOrd P ops Q S loose r (a.put o.dst v) w
  | (i, _ + 2) :: r, a, w => ∃ o, ops[i]? = some o ∧ wpList P ops (Qn Q fun a' w' => (loose.contains i = false → S w') ∧ wpOrd P ops Q S loose r a' w') [o] a w
def ordrB (md : Region.Mode) (ops : Array Oper) (loose : List Nat) : List (Nat × Nat) → Bool → Array Bool → Bool
  | [], _, listed => (Region.ready md ops listed).isEmpty
  | (i, 0) :: r, s, listed => loose.contains i && (Region.ready md ops listed).contains i && Region.free md ops listed i && ordrB md ops loose r s (listed.setIfInBounds i true)
  | (i, 1) :: r, s, listed => s && (Region.ready md ops listed).contains i && Region.free md ops listed i && waitB md ops i (waitOf md ops i) &&
      ((List.range ops.size).all fun j => listed.getD j true || j == i || !loose.contains j || (waitOf md ops i).contains j) && ordrB md ops loose r s (listed.setIfInBounds i true)
  | (i, _ + 2) :: r, _, listed => decide (Region.ready md ops listed = [i]) && ordrB md ops loose r (!loose.contains i) (listed.setIfInBounds i true)

theorem wpAnyN_of_ord (hsel : Region.noSelect ops = true) (hQ : ∀ (d : Option Tmp) (v : Value) c a w, Q (.panic c) (a.put d v) w → Q (.panic c) a w) :
    ∀ (l : List (Nat × Nat)) (s : Bool) (listed : Array Bool) (a : Act) (w : World), OInv md ops listed → ordrB md ops loose l s listed = true → (s = true → S w) → wpOrd P ops Q S loose l a w → wpAnyN P md ops Q S loose l.length listed a w
  | [], _, listed, a, w, _, hB, _, h => ⟨by simpa [ordrB] using hB, h⟩
  | (i, 0) :: r, s, listed, a, w, inv, hB, hS, h => by
    simp only [ordrB, Bool.and_eq_true] at hB
    obtain ⟨⟨⟨hl, hr⟩, hf⟩, hB'⟩ := hB
    obtain ⟨o, ho, v, hy, hK⟩ := h
    have hr' : i ∈ Region.ready md ops listed := by simpa using hr
    exact wpAnyN_pure ho (Region.noSelect_spec hsel) (fun c a w => hQ _ _ c a w) hl _ listed a w (Region.free_spec ho hf) hr' hy (wpAnyN_of_ord hsel hQ r s _ _ w (inv.set hr') hB' hS hK)
  | (i, 1) :: r, s, listed, a, w, inv, hB, hS, h => by
    simp only [ordrB, Bool.and_eq_true] at hB
    obtain ⟨⟨⟨⟨⟨hs, hr⟩, hf⟩, hD⟩, hn⟩, hB'⟩ := hB
    obtain ⟨o, ho, v, hy, hK⟩ := h
    have hr' : i ∈ Region.ready md ops listed := by simpa using hr
    refine wpAnyN_first ho (Region.noSelect_spec hsel) hD (fun c a w => hQ _ _ c a w) _ listed a w inv (fun j hj hun hji hlo => ?_) (Region.free_spec ho hf) hr' hy (hS hs) (wpAnyN_of_ord hsel hQ r s _ _ w (inv.set hr') hB' hS hK)
    have h1 := List.all_eq_true.1 hn j (List.mem_range.2 hj)
    simp only [Bool.or_eq_true, beq_iff_eq, hun, hji, hlo, Bool.not_true, Bool.false_eq_true, false_or] at h1
    simpa using h1
  | (i, k + 2) :: r, s, listed, a, w, inv, hB, hS, h => by
    simp only [ordrB, Bool.and_eq_true, decide_eq_true_eq] at hB
    obtain ⟨hr, hB'⟩ := hB
    obtain ⟨o, ho, h⟩ := h
    refine ⟨fun h1 => (by rw [hr] at h1; cases h1), fun j hj => ?_⟩
    have hji : j = i := by rw [hr] at hj; simpa using hj
    subst hji
    refine wpOp_mono (fun a' w' h' => ⟨h'.1, wpAnyN_of_ord hsel hQ r _ _ a' w' (inv.set hj) hB' (fun hs => h'.1 (by simpa using hs)) h'.2⟩) (wpOp_of_one ho h)

theorem wp_region_ord {id : Nat} {a : Act} {w : World} {l : List Oper} (loose : List Nat) (order : List (Nat × Nat)) (S : World → Prop) (hm : P.follows .mixedOrders = true)
    (hB : (Region.noSelect l.toArray && decide (order.length = l.toArray.size) && ordrB .any l.toArray loose order true (Array.replicate l.toArray.size false)) = true)
    (hQ : ∀ (d : Option Tmp) (v : Value) c a w, Q (.panic c) (a.put d v) w → Q (.panic c) a w) (hS : S w.drew)
    (h : ∀ X, X = w.drew → S X → wpOrd P l.toArray Q S loose order a X) : (Code.region id l.toArray true).wp P Q a w := by
  simp only [Bool.and_eq_true, decide_eq_true_eq] at hB
  obtain ⟨⟨hsel, hlen⟩, hb⟩ := hB
  refine wp_region_any hm ?_
  have := wpAnyN_of_ord (md := .any) (S := S) hsel hQ order true _ a w.drew OInv.start hb (fun _ => hS) (h _ rfl hS)
  rw [hlen] at this
  exact wpAny_of_N _ _ _ _ this

theorem wpOrd_pure {i : Nat} {r : List (Nat × Nat)} {o : Oper} {a : Act} {w : World} (ho : ops[i]? = some o) (hw : Region.wanted o (yielded ops a.tmps) = true)
    (h : ∀ K : Act → World → Prop, (∀ a w, wpOrd P ops Q S loose r a w → K a w) → ∃ v, (∀ W, (execOp a.eval o).run P W = .ok (.value v) W) ∧ K (a.put o.dst v) w) : wpOrd P ops Q S loose ((i, 0) :: r) a w :=
  let ⟨v, hv, hK⟩ := h _ fun _ _ hh => hh
  ⟨o, ho, v, .inl ⟨hw, fun W _ => hv W⟩, hK⟩
theorem wpOrd_class {i : Nat} {r : List (Nat × Nat)} {o : Oper} {a : Act} {w : World} (ho : ops[i]? = some o) (hw : Region.wanted o (yielded ops a.tmps) = true)
    (h : ∀ K : Act → World → Prop, (∀ a w, wpOrd P ops Q S loose r a w → K a w) → ∃ v, (∀ W, S W → (execOp a.eval o).run P W = .ok (.value v) W) ∧ K (a.put o.dst v) w) : wpOrd P ops Q S loose ((i, 1) :: r) a w :=
  let ⟨v, hv, hK⟩ := h _ fun _ _ hh => hh
  ⟨o, ho, v, .inl ⟨hw, hv⟩, hK⟩
theorem wpOrd_skip {i : Nat} {r : List (Nat × Nat)} {o : Oper} {a : Act} {w : World} (ho : ops[i]? = some o) (hw : Region.wanted o (yielded ops a.tmps) = false)
    (h : ∀ K : Act → World → Prop, (∀ a w, wpOrd P ops Q S loose r a w → K a w) → K (a.put o.dst undef) w) : wpOrd P ops Q S loose ((i, 0) :: r) a w :=
  ⟨o, ho, undef, .inr ⟨hw, rfl⟩, h _ fun _ _ hh => hh⟩
theorem wpOrd_skip1 {i : Nat} {r : List (Nat × Nat)} {o : Oper} {a : Act} {w : World} (ho : ops[i]? = some o) (hw : Region.wanted o (yielded ops a.tmps) = false)
    (h : ∀ K : Act → World → Prop, (∀ a w, wpOrd P ops Q S loose r a w → K a w) → K (a.put o.dst undef) w) : wpOrd P ops Q S loose ((i, 1) :: r) a w :=
  ⟨o, ho, undef, .inr ⟨hw, rfl⟩, h _ fun _ _ hh => hh⟩
theorem wpOrd_comes {i : Nat} {r : List (Nat × Nat)} {o : Oper} {a : Act} {w : World} (ho : ops[i]? = some o)
    (h : ∀ N : Act → World → Prop, (∀ a w, (loose.contains i = false → S w) → wpOrd P ops Q S loose r a w → N a w) → wpList P ops (Qn Q N) [o] a w) : wpOrd P ops Q S loose ((i, 2) :: r) a w :=
  ⟨o, ho, h _ fun _ _ h1 h2 => ⟨h1, h2⟩⟩
theorem wpOrd_done {a : Act} {w : World} (h : Q .normal a w) : wpOrd P ops Q S loose [] a w := h
theorem wpList_then {N : Act → World → Prop} {a : Act} {w : World} (h : N a w) : wpList P ops (Qn Q N) [] a w := h
end
end Go.Cu
/- The document's disk in memory. -/
namespace Go.Proofs.Ythmchbdhikakhaa
open Go.RowKit Go.Cu

/-- The document's disk S lies in memory: its struct is block p; all its blocks are of F. -/
structure RefAt (W : World) (p : Nat) (F : Nat → Prop) (S : DS) (pl : Nat) (wv : Value) : Prop where
  op : F p
  ol : F pl
  ow : ∀ g, wv.ownBlock = some g → F g
  box : W.heap[p]? = some (.cells #[.slice (some ⟨pl, 0, none⟩) S.last.length S.last.length, wv, .int .i64 S.writes, .int .i64 S.armed, .bool S.off] 51 (0, 0))
  last : W.heap[pl]? = some (.cells (flat S.last) 32 (0, 0))
  wait : W.ownsRow 0 109 129 wv S.wait.length (waitL S.wait)
def RefIn (W : World) (p : Nat) (F : Nat → Prop) (S : DS) : Prop := ∃ pl wv, RefAt W p F S pl wv
section
variable {W W' : World} {p : Nat} {F G : Nat → Prop} {S : DS} {pl : Nat} {wv : Value}
theorem RefAt.keep (h : RefAt W p F S pl wv) (hk : ∀ g, g < W.heap.size → F g → W'.heap[g]? = W.heap[g]?) : RefAt W' p F S pl wv :=
  ⟨h.op, h.ol, h.ow, (hk p (lt_of_heap h.box) h.op).trans h.box, (hk pl (lt_of_heap h.last) h.ol).trans h.last, own_keep h.wait fun g hg => hk g (own_lt h.wait hg) (h.ow g hg)⟩
theorem RefAt.below (h : RefAt W p F S pl wv) (hb : Below W.heap.size W W') : RefAt W' p F S pl wv := h.keep fun g hg _ => hb.block g hg
theorem RefIn.keep (h : RefIn W p F S) (hk : ∀ g, g < W.heap.size → F g → W'.heap[g]? = W.heap[g]?) : RefIn W' p F S := by
  obtain ⟨pl, wv, h⟩ := h
  exact ⟨pl, wv, h.keep hk⟩
theorem RefIn.mono (h : RefIn W p F S) (hm : ∀ g, g < W.heap.size → F g → G g) : RefIn W p G S := by
  obtain ⟨pl, wv, h⟩ := h
  exact ⟨pl, wv, hm p (lt_of_heap h.box) h.op, hm pl (lt_of_heap h.last) h.ol, fun g hg => hm g (own_lt h.wait hg) (h.ow g hg), h.box, h.last, h.wait⟩
theorem RefIn.below (h : RefIn W p F S) (hb : Below W.heap.size W W') : RefIn W' p F S := h.keep fun g hg _ => hb.block g hg
end
/-- A disk, the document's disk, as things in memory. -/
def Disk (p : Nat) (S : DS) : Atm := ⟨fun F W => DiskIn W p F S, fun h hk => h.keep hk, fun h hm => h.mono hm⟩
def Ref (p : Nat) (S : DS) : Atm := ⟨fun F W => RefIn W p F S, fun h hk => h.keep hk, fun h hm => h.mono hm⟩
theorem size32 : (Try.prog.info? 32).map (·.size) = some 128 := by kernel_rfl
theorem guard32 : Try.prog.eqGuardType Try.prog.depth 32 = false := by kernel_rfl
set_option maxRecDepth 20000 in
theorem zero32 (W : World) : (zeroValue 32).run Try.prog W = .ok (.agg (bv zeroB)) W := by kernel_rfl
set_option maxRecDepth 20000 in
theorem build32 (W : World) : (Instr.build 32 #[]).run Try.prog W = .ok (.agg (bv zeroB)) W := by kernel_rfl
set_option maxRecDepth 20000 in
theorem info32 : (Try.prog.info? 32).map (fun i => (i.zero, i.size, i.bytes)) = some (some (.agg (bv zeroB)), 128, 128) := by kernel_rfl
theorem size109 : (Try.prog.info? 109).map (·.size) = some 129 := by kernel_rfl
@[go_sem ↓] theorem ldk32 (a : Act) (dst : Option Tmp) (x : Operand) (ty : TypeId) (pos : String) (after : Array Edge) (guard : Option (Nat × Bool)) :
      execOp a.eval { dst, op := .load 32 x, type := ty, pos, after, guard } = loadK 32 (a.eval x) := rfl
@[go_sem ↓] theorem eqk32 (a : Act) (dst : Option Tmp) (x y : Operand) (t' ty : TypeId) (pos : String) (after : Array Edge) (guard : Option (Nat × Bool)) :
      execOp a.eval { dst, op := .binOp .eql 32 x y t', type := ty, pos, after, guard } = cmpK .eql 32 x y (a.eval x) (a.eval y) := rfl
@[go_sem ↓] theorem nek32 (a : Act) (dst : Option Tmp) (x y : Operand) (t' ty : TypeId) (pos : String) (after : Array Edge) (guard : Option (Nat × Bool)) :
      execOp a.eval { dst, op := .binOp .neq 32 x y t', type := ty, pos, after, guard } = cmpK .neq 32 x y (a.eval x) (a.eval y) := rfl
@[go_sem ↓] theorem ldk109 (a : Act) (dst : Option Tmp) (x : Operand) (ty : TypeId) (pos : String) (after : Array Edge) (guard : Option (Nat × Bool)) :
      execOp a.eval { dst, op := .load 109 x, type := ty, pos, after, guard } = loadK 109 (a.eval x) := rfl
set_option maxRecDepth 20000 in
theorem zero109 (W : World) : (zeroValue 109).run Try.prog W = .ok zeroPut W := by kernel_rfl
set_option maxRecDepth 20000 in
theorem info109 : (Try.prog.info? 109).map (fun i => (i.zero, i.size, i.bytes)) = some (some zeroPut, 129, 136) := by kernel_rfl
@[go_sem ↓] theorem bdk109 (a : Act) (dst : Option Tmp) (ps : Array (Nat × Operand)) (ty : TypeId) (pos : String) (after : Array Edge) (guard : Option (Nat × Bool)) :
    execOp a.eval { dst, op := .build 109 ps, type := ty, pos, after, guard } = buildK 109 (ps.map fun (i, x) => (i, a.eval x)) := rfl
theorem build109 (n : Nat) (b : Bk) (hb : b.length = 128) (w : World) : (buildK 109 #[(0, .int .i64 n), (1, .agg (bv b))]).run Try.prog w = .ok (.value (.agg (putL (n, b)).toArray)) w := by
  refine (run_buildK (run_build2 (z := zeroPut) (s0 := 1) (s1 := 128) Try.underlying109 zero109 size3 size32 rfl rfl ?_ _ _ rfl ?_ w)).trans ?_
  · show (putL (0, zeroB)).toArray.size = 129
    exact putL_size zeroB_len
  · exact (bv_size b).trans hb
  · congr 3
    apply Array.ext'
    simp [Value.cells, putL, bvL, bv]
end Go.Proofs.Ythmchbdhikakhaa
