/- So many noughts appended to a row of bytes. -/
import Derived.Test.YtnakbdgoaepehaaDoorSha5Press
import Derived.Lib.AppendZerosOnto
namespace Go.Cu
open Go Go.RowKit
section
variable {P : Program}
theorem zeroCells_u8 (m : Nat) : Builtin.zeroCells (Value.int .u8 0).cells m = (bvL (List.replicate m 0)).toArray := by
  apply Array.ext
  · simp [Builtin.zeroCells, bvL, Value.cells]
  · intro j h1 h2
    simp [Builtin.zeroCells, bvL, Value.cells, Nat.mod_one]
theorem run_append_zeros (w : World) (t tn ty e : TypeId) (i : TypeInfo) (kq kn : IntKind) (ht : P.underlying t = some (.slice e)) (htn : P.underlying tn = some (.int kn)) (hi : P.info? e = some i) (hz : i.zero = some (.int .u8 0)) (hsize : i.size = 1) (hby : i.bytes = 1)
    {g n c : Nat} {xs : List UInt8} (hown : w.ownsRow 0 e 1 (.slice (some ⟨g, 0, none⟩) n c) n (bvL xs)) (m : Nat) (h0 : 0 < m) (h63 : n + m ≤ 1000000) :
    ∃ v' w', (Builtin.append_ #[t, tn] ty #[.slice (some ⟨g, 0, none⟩) n c, .int kq m]).run P w = .ok v' w' ∧ w'.ownsRow 0 e 1 v' (n + m) (bvL (xs ++ List.replicate m 0)) ∧ Tch (· = g) w w' ∧ (v'.ownBlock = some g ∨ v'.ownBlock = some w.heap.size) := by
  have hk : m ≠ 0 := by omega
  have hw : IntKind.i64.wrap (m : Int) = m := by rw [IntKind.wrap_i64]; omega
  have hneg : ¬ ((m : Int) < 0) := by omega
  have h48i : ¬ (281474976710656 < (m : Int)) := by omega
  have hxl : (bvL xs).length = n := by have := hown.1; omega
  have hlen : (bvL (xs ++ List.replicate m 0)).length = (n + m) * 1 := by
    rw [bvL_app, List.length_append, hxl, bvL_len, List.length_replicate, Nat.mul_one]
  have hzl : (bvL (List.replicate m 0)).length = m := by rw [bvL_len, List.length_replicate]
  rcases hown.2 with ⟨hv, _⟩ | ⟨g', cap, cur, hv, hbg, hg, hnc, hcm, hcs, htake⟩
  · cases hv
  · cases hv
    rw [Nat.mul_one] at hcs htake
    by_cases hroom : n + m ≤ c
    · have hst := run_storeCells_at P g n e (bvL (List.replicate m 0)) 0 cur w hg (by rw [hzl]; omega) (bvL_one _)
      simp only [Nat.add_zero] at hst
      refine ⟨.slice (some ⟨g, 0, none⟩) (n + m) c, w.setRow g (cur.toList.take n ++ bvL (List.replicate m 0) ++ cur.toList.drop (n + (bvL (List.replicate m 0)).length)).toArray, ?_, ⟨hlen, .inr ⟨g, c, _, rfl, Nat.zero_le _, setRow_heap w g cur _ e _ hg, hroom, hcm, ?_, ?_⟩⟩, ⟨rfl, rfl, rfl, by simp, fun k _ hk => setRow_other w g k _ (fun e => hk e)⟩, .inl rfl⟩
      · simp [Builtin.append_, run_underlying ht, run_underlying htn, sizeOf, typeInfo, zeroValue, hi, hz, hsize, hby, asInt, asIntOf, hw, hneg, hk, h48i, hroom, Addr.add_lit, zeroCells_u8, hst]
      · simp only [List.size_toArray, List.length_append, List.length_take, List.length_drop, Array.length_toList, hzl]
        omega
      · rw [Nat.mul_one, htake, bvL_app, List.toList_toArray]
        have e1 : n + m = (bvL xs ++ bvL (List.replicate m 0)).length := by rw [List.length_append, hxl, hzl]
        rw [e1]
        exact List.take_left
    · have holds : ∀ j u, (bvL xs)[j]? = some u → w.drew.cell? ((⟨g, 0, none⟩ : Addr).add j) = some u := hown.cells (g := g) rfl
      have hf := run_firstCells_some (P := P) w.drew i.size n ⟨g, 0, none⟩ n c (bvL xs) (by rw [hxl, hsize, Nat.mul_one]) holds
      have hr := Lib.run_append_grow_zeros (P := P) w t tn ty e i (.int .u8 0) kq kn ht htn hi hz (some ⟨g, 0, none⟩) n c (bvL xs) hf m h0 (by omega) (by omega) (by omega) (by rw [hby]; omega) (by rw [hby]; exact growslice_fits (by omega) (by omega))
      have hge := grownCap_ge w (n + m) c e
      have hcm2 : grownCap w (n + m) c e ≤ maxLen := grownCap_le_maxLen w (n + m) c e (by unfold maxLen; omega)
      refine ⟨_, _, hr, ⟨hlen, .inr ⟨w.heap.size, _, _, rfl, Nat.zero_le _, heap_alloc_new w.drew _, hge, hcm2, ?_, ?_⟩⟩, ⟨rfl, rfl, rfl, by simp, fun k hk _ => heap_alloc_old w.drew _ hk⟩, .inr rfl⟩
      · simp only [Array.size_append, List.size_toArray, size_zeroCells, hxl]
        show n + m * 1 + (_ - (n + m)) * 1 = _
        omega
      · rw [zeroCells_u8, bvL_app]
        simp only [Array.toList_append, List.append_assoc]
        rw [← List.append_assoc, Nat.mul_one]
        have e1 : n + m = (bvL xs ++ bvL (List.replicate m 0)).length := by rw [List.length_append, hxl, hzl]
        conv => lhs; rw [e1]
        exact List.take_left
theorem wpList_append_zeros {ops : Array Oper} {rest : List Oper} {o : Oper} {a : Act} {Q : Exit → Act → World → Prop} {w : World} (s x : Operand) (t tn : TypeId)
    (ho : o.op = .call { callee := .builtin .append, args := #[s, x], argTypes := #[t, tn] }) {g n c : Nat} (hs : a.eval s = .slice (some ⟨g, 0, none⟩) n c) {kq kn : IntKind} {m : Nat} (hx : a.eval x = .int kq m) (hw : Region.wanted o (yielded ops a.tmps) = true)
    (e : TypeId) (i : TypeInfo) (ht : P.underlying t = some (.slice e)) (htn : P.underlying tn = some (.int kn)) (hi : P.info? e = some i) (hz : i.zero = some (.int .u8 0)) (hsize : i.size = 1) (hby : i.bytes = 1)
    {xs : List UInt8} (hown : w.ownsRow 0 e 1 (.slice (some ⟨g, 0, none⟩) n c) n (bvL xs)) (h0 : 0 < m) (h63 : n + m ≤ 1000000)
    (h : ∀ v' w', w'.ownsRow 0 e 1 v' (n + m) (bvL (xs ++ List.replicate m 0)) → Tch (· = g) w w' → (v'.ownBlock = some g ∨ v'.ownBlock = some w.heap.size) → wpList P ops Q rest (a.put o.dst v') w') : wpList P ops Q (o :: rest) a w := by
  refine wpList_wanted hw fun K hK => ?_
  obtain ⟨v', w', hrun, h2, h3, h5⟩ := run_append_zeros (P := P) w t tn o.type e i kq kn ht htn hi hz hsize hby hown m h0 h63
  unfold Oper.wp execOp
  simp only [ho, resolve, invoke, builtin, Sem.run_bind, Sem.run_pure, Result.andThen_ok, List.map_toArray, List.map_cons, List.map_nil, hs, hx, hrun]
  exact hK _ _ (h v' w' h2 h3 h5)
end
end Go.Cu
