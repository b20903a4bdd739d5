/- The builtin copy into a block that is known whole. -/
import Derived.Test.YtnakbdgoaepehaaDoorSep
import Derived.Laws.CopyOwn
import Derived.Laws.IdiomCopy
namespace Go.Cu
open Go Go.RowKit
theorem putAt_nil (cur : Array Value) (o : Nat) : putAt cur o [] = cur := by
  unfold putAt
  simp
theorem wpList_copyB {P : Program} {w : World} {ops : Array Oper} {rest : List Oper} {o : Oper} {a : Act} {Q : Exit → Act → World → Prop} (hw : Region.wanted o (yielded ops a.tmps) = true) (d s : Operand) (dT sT : TypeId)
    (ho : o.op = .call { callee := .builtin .copy, args := #[d, s], argTypes := #[dT, sT] }) (elem : TypeId) (hu : P.underlying dT = some (.slice elem)) (hsz : (P.info? elem).map (·.size) = some 1)
    (g off dLen dCap : Nat) (sp : Option Addr) (sLen sCap : Nat) (hd : a.eval d = .slice (some ⟨g, off, none⟩) dLen dCap) (hs : a.eval s = .slice sp sLen sCap)
    (cur : Array Value) (t : TypeId) (hg : w.heap[g]? = some (.cells cur t (0, 0))) (cs : List Value) (hn : cs.length = Nat.min sLen dLen)
    (hsrc : ∀ j v, cs[j]? = some v → ∃ ad, sp = some ad ∧ w.cell? (ad.add j) = some v) (hfit : off + cs.length ≤ cur.size) (h1 : ∀ v ∈ cs, v.oneCell' = true)
    (h : ∀ w' : World, w'.heap[g]? = some (.cells (putAt cur off cs) t (0, 0)) → Tch (· = g) w w' → wpList P ops Q rest (a.put o.dst (goInt cs.length)) w') : wpList P ops Q (o :: rest) a w := by
  refine wpList_wanted hw fun K hK => ?_
  match cs, hn, hsrc, hfit, h1, h with
  | [], hn, _, _, _, h =>
    have hrun := run_copy_none (P := P) w dT sT o.type elem (some ⟨g, off, none⟩) sp dLen dCap sLen sCap hu hsz (by simpa using hn.symm)
    have hz := hK _ _ (h w (by rw [putAt_nil]; exact hg) (Tch.refl _ _))
    unfold Oper.wp execOp
    simp only [ho, resolve, invoke, builtin, Sem.run_bind, Sem.run_pure, Result.andThen_ok, List.map_toArray, List.map_cons, List.map_nil, hd, hs, hrun]
    exact hz
  | c :: cs, hn, hsrc, hfit, h1, h =>
    obtain ⟨ad, rfl, _⟩ := hsrc 0 c rfl
    have hrun := run_copy_row (P := P) w dT sT o.type elem g off dLen dCap ad sLen sCap cur t (c :: cs) hu hsz hg hn (fun j v hj => by
      obtain ⟨ad', e, hc⟩ := hsrc j v hj
      cases e; exact hc) hfit h1
    have hz := hK _ _ (h _ (setRow_heap w g cur _ t _ hg) ⟨rfl, rfl, rfl, by simp, fun k _ hk => setRow_other w g k _ hk⟩)
    unfold Oper.wp execOp
    simp only [ho, resolve, invoke, builtin, Sem.run_bind, Sem.run_pure, Result.andThen_ok, List.map_toArray, List.map_cons, List.map_nil, hd, hs, hrun]
    exact hz
end Go.Cu
