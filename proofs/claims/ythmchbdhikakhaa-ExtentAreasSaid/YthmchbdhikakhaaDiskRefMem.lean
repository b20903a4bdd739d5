/- The document's disk in memory. -/
import Derived.Test.YthmchbdhikakhaaDiskRead
import Derived.Test.YthmchbdhikakhaaDiskWrite
import Derived.Test.YthmchbdhikakhaaDiskSmall
import Derived.Test.YthmchbdhikakhaaDiskTied
import Derived.Test.YthmchbdhikakhaaSep
import Derived.Test.YthmchbdhikakhaaOrder
namespace Go.Proofs.Ythmchbdhikakhaa
open Go.RowKit Go.Cu

/-- The document's disk S lies in memory: its struct is block p; all its blocks are of F. -/
structure RefAt (W : World) (p : Nat) (F : Nat → Prop) (S : DS) (pl : Nat) (wv : Value) : Prop where
  op : F p
  ol : F pl
  ow : ∀ g, wv.ownBlock = some g → F g
  box : W.heap[p]? = some (.cells #[.slice (some ⟨pl, 0, none⟩) S.last.length S.last.length, wv, .int .i64 S.writes, .int .i64 S.armed, .bool S.off] 51 (0, 0))
  last : W.heap[pl]? = some (.cells (flat S.last) 32 (0, 0))
  wait : W.ownsRow 0 109 129 wv S.wait.length (waitL S.wait)
def RefIn (W : World) (p : Nat) (F : Nat → Prop) (S : DS) : Prop := ∃ pl wv, RefAt W p F S pl wv
section
variable {W W' : World} {p : Nat} {F G : Nat → Prop} {S : DS} {pl : Nat} {wv : Value}
theorem RefAt.keep (h : RefAt W p F S pl wv) (hk : ∀ g, g < W.heap.size → F g → W'.heap[g]? = W.heap[g]?) : RefAt W' p F S pl wv :=
  ⟨h.op, h.ol, h.ow, (hk p (lt_of_heap h.box) h.op).trans h.box, (hk pl (lt_of_heap h.last) h.ol).trans h.last, own_keep h.wait fun g hg => hk g (own_lt h.wait hg) (h.ow g hg)⟩
theorem RefAt.below (h : RefAt W p F S pl wv) (hb : Below W.heap.size W W') : RefAt W' p F S pl wv := h.keep fun g hg _ => hb.block g hg
theorem RefIn.keep (h : RefIn W p F S) (hk : ∀ g, g < W.heap.size → F g → W'.heap[g]? = W.heap[g]?) : RefIn W' p F S := by
  obtain ⟨pl, wv, h⟩ := h
  exact ⟨pl, wv, h.keep hk⟩
theorem RefIn.mono (h : RefIn W p F S) (hm : ∀ g, g < W.heap.size → F g → G g) : RefIn W p G S := by
  obtain ⟨pl, wv, h⟩ := h
  exact ⟨pl, wv, hm p (lt_of_heap h.box) h.op, hm pl (lt_of_heap h.last) h.ol, fun g hg => hm g (own_lt h.wait hg) (h.ow g hg), h.box, h.last, h.wait⟩
theorem RefIn.below (h : RefIn W p F S) (hb : Below W.heap.size W W') : RefIn W' p F S := h.keep fun g hg _ => hb.block g hg
end
/-- A disk, the document's disk, as things in memory. -/
def Disk (p : Nat) (S : DS) : Atm := ⟨fun F W => DiskIn W p F S, fun h hk => h.keep hk, fun h hm => h.mono hm⟩
def Ref (p : Nat) (S : DS) : Atm := ⟨fun F W => RefIn W p F S, fun h hk => h.keep hk, fun h hm => h.mono hm⟩
theorem size32 : (Try.prog.info? 32).map (·.size) = some 128 := by kernel_rfl
theorem guard32 : Try.prog.eqGuardType Try.prog.depth 32 = false := by kernel_rfl
set_option maxRecDepth 20000 in
theorem zero32 (W : World) : (zeroValue 32).run Try.prog W = .ok (.agg (bv zeroB)) W := by kernel_rfl
set_option maxRecDepth 20000 in
theorem build32 (W : World) : (Instr.build 32 #[]).run Try.prog W = .ok (.agg (bv zeroB)) W := by kernel_rfl
set_option maxRecDepth 20000 in
theorem info32 : (Try.prog.info? 32).map (fun i => (i.zero, i.size, i.bytes)) = some (some (.agg (bv zeroB)), 128, 128) := by kernel_rfl
theorem size109 : (Try.prog.info? 109).map (·.size) = some 129 := by kernel_rfl
@[go_sem ↓] theorem ldk32 (a : Act) (dst : Option Tmp) (x : Operand) (ty : TypeId) (pos : String) (after : Array Edge) (guard : Option (Nat × Bool)) :
      execOp a.eval { dst, op := .load 32 x, type := ty, pos, after, guard } = loadK 32 (a.eval x) := rfl
@[go_sem ↓] theorem eqk32 (a : Act) (dst : Option Tmp) (x y : Operand) (t' ty : TypeId) (pos : String) (after : Array Edge) (guard : Option (Nat × Bool)) :
      execOp a.eval { dst, op := .binOp .eql 32 x y t', type := ty, pos, after, guard } = cmpK .eql 32 x y (a.eval x) (a.eval y) := rfl
@[go_sem ↓] theorem nek32 (a : Act) (dst : Option Tmp) (x y : Operand) (t' ty : TypeId) (pos : String) (after : Array Edge) (guard : Option (Nat × Bool)) :
      execOp a.eval { dst, op := .binOp .neq 32 x y t', type := ty, pos, after, guard } = cmpK .neq 32 x y (a.eval x) (a.eval y) := rfl
@[go_sem ↓] theorem ldk109 (a : Act) (dst : Option Tmp) (x : Operand) (ty : TypeId) (pos : String) (after : Array Edge) (guard : Option (Nat × Bool)) :
      execOp a.eval { dst, op := .load 109 x, type := ty, pos, after, guard } = loadK 109 (a.eval x) := rfl
set_option maxRecDepth 20000 in
theorem zero109 (W : World) : (zeroValue 109).run Try.prog W = .ok zeroPut W := by kernel_rfl
set_option maxRecDepth 20000 in
theorem info109 : (Try.prog.info? 109).map (fun i => (i.zero, i.size, i.bytes)) = some (some zeroPut, 129, 136) := by kernel_rfl
@[go_sem ↓] theorem bdk109 (a : Act) (dst : Option Tmp) (ps : Array (Nat × Operand)) (ty : TypeId) (pos : String) (after : Array Edge) (guard : Option (Nat × Bool)) :
    execOp a.eval { dst, op := .build 109 ps, type := ty, pos, after, guard } = buildK 109 (ps.map fun (i, x) => (i, a.eval x)) := rfl
theorem build109 (n : Nat) (b : Bk) (hb : b.length = 128) (w : World) : (buildK 109 #[(0, .int .i64 n), (1, .agg (bv b))]).run Try.prog w = .ok (.value (.agg (putL (n, b)).toArray)) w := by
  refine (run_buildK (run_build2 (z := zeroPut) (s0 := 1) (s1 := 128) Try.underlying109 zero109 size3 size32 rfl rfl ?_ _ _ rfl ?_ w)).trans ?_
  · show (putL (0, zeroB)).toArray.size = 129
    exact putL_size zeroB_len
  · exact (bv_size b).trans hb
  · congr 3
    apply Array.ext'
    simp [Value.cells, putL, bvL, bv]
end Go.Proofs.Ythmchbdhikakhaa
