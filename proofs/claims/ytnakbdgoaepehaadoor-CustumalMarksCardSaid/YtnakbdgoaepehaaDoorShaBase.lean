/- What the sums stand on, at a program without a disk. -/
import Derived.Test.YtnakbdgoaepehaaDoorProg
import Derived.Test.YtnakbdgoaepehaaDoorSep3
import Derived.Test.YtnakbdgoaepehaaDoorOrder
import Derived.Test.YtnakbdgoaepehaaDoorTail
import Derived.Test.YtnakbdgoaepehaaDoorCopyB
import Derived.Deep.CutBlock
import Derived.Deep.DeepCutAuto
namespace Go.Cu
open Go Go.RowKit
section
variable {P : Program}
theorem run_append_zero {w : World} (base : Nat) (t ty e : TypeId) (i : TypeInfo) (size : Nat) (ht : P.underlying t = some (.slice e)) (hi : P.info? e = some i)
    (v : Value) (n : Nat) (xs : List Value) (hown : w.ownsRow base e size v n xs) (B : Option Addr) (c : Nat) :
    (Builtin.append_ #[t, t] ty #[v, .slice B 0 c]).run P w = .ok v w := by
  have hl : ∀ a : Addr, (loadCells a 0).run P w = .ok #[] w := fun a => run_loadCells_list (P := P) w a [] (fun j v hj => by cases hj)
  rcases hown.2 with ⟨rfl, rfl⟩ | ⟨g, cap, cur, rfl, _, _, hnc, _⟩
  · cases B <;> simp [Builtin.append_, run_underlying ht, sizeOf, typeInfo, hi, Builtin.lenOf, Builtin.firstCells, hl]
  · cases B <;> simp [Builtin.append_, run_underlying ht, sizeOf, typeInfo, hi, Builtin.lenOf, Builtin.firstCells, hnc, storeCells, hl]
theorem wpList_append_bytes {ops : Array Oper} {rest : List Oper} {o : Oper} {a : Act} {w : World} {Q : Exit → Act → World → Prop} (s x : Operand) (t : TypeId)
    (ho : o.op = .call { callee := .builtin .append, args := #[s, x], argTypes := #[t, t] }) (v : Value) (hs : a.eval s = v) (B : Option Addr) (c : Nat) (r : List UInt8) (hx : a.eval x = .slice B r.length c) (hw : Region.wanted o (yielded ops a.tmps) = true)
    (e : TypeId) (i : TypeInfo) (ht : P.underlying t = some (.slice e)) (hi : P.info? e = some i) (hz : i.zero = some (.int .u8 0))
    (hsize : i.size = 1) (hby : i.bytes = 1)
    (n : Nat) (xs : List Value) (hown : w.ownsRow 0 e 1 v n xs) (hb : BytesIn w B r)
    (h63 : n + r.length ≤ 140737488355328)
    (h : ∀ v' w', w'.ownsRow 0 e 1 v' (n + r.length) (xs ++ bvL r) → Tch (fun g => v.ownBlock = some g) w w' → (v'.ownBlock = v.ownBlock ∨ v'.ownBlock = some w.heap.size) → wpList P ops Q rest (a.put o.dst v') w') : wpList P ops Q (o :: rest) a w := by
  match r, hb, h63, h, hx with
  | [], hb, h63, h, hx =>
    refine wpList_wanted hw fun K hK => ?_
    have hrun := run_append_zero 0 t o.type e i 1 ht hi v n xs hown B c
    unfold Oper.wp execOp
    simp only [ho, resolve, invoke, builtin, Sem.run_bind, Sem.run_pure, Result.andThen_ok, List.map_toArray, List.map_cons, List.map_nil, hs, hx, List.length_nil, hrun]
    exact hK _ _ (h v w (by simpa [bvL] using hown) (Tch.refl _ _) (.inl rfl))
  | b :: r, hb, h63, h, hx =>
    obtain ⟨g, o', rfl, _, _⟩ := hb 0 b rfl
    refine wpList_append_at s x t ho v hs ⟨g, o', none⟩ (b :: r).length c hx hw e i (.int .u8 0) 1 1 ht hi hz hsize hby rfl (by decide) n xs hown (bvL (b :: r)) (by simp [bvL]) (fun j u hj => ?_) (bvL_one _) (by unfold maxLen; omega) (by omega) h
    unfold bvL at hj
    rw [List.getElem?_map] at hj
    cases hq : (b :: r)[j]? with
    | none => rw [hq] at hj; cases hj
    | some q =>
      rw [hq] at hj
      obtain rfl : Value.int .u8 q.toNat = u := by simpa using hj
      obtain ⟨g', o2, e', _, hc⟩ := hb j q hq
      cases e'
      have e3 : (⟨g, o', none⟩ : Addr).add j = ⟨g, o' + j, none⟩ := by unfold Addr.add; split <;> simp_all
      rw [e3]
      exact hc
end
section
variable {W0 W : World} {L : List Atm}
theorem BytesIn.take {W : World} {A : Option Addr} {r : List UInt8} (h : BytesIn W A r) (m : Nat) : BytesIn W A (r.take m) := fun i b hi => by
  have hi' : i < m := by
    rcases Nat.lt_or_ge i m with h1 | h1
    · exact h1
    · rw [List.getElem?_eq_none (by rw [List.length_take]; omega)] at hi; cases hi
  rw [List.getElem?_take_of_lt hi'] at hi
  exact h i b hi
theorem St.row_val {A : Option Addr} {c e n : Nat} {bs : List UInt8} (h : St W0 (Row (.slice A n c) e 1 n (bvL bs) :: L) W) (hn : n = bs.length) : St W0 (Vals [.slice A n c] [bs] :: L) W := by
  obtain ⟨F, ha, hF, hr⟩ := h.first
  refine hr _ _ ⟨rfl, fun i r hi => ?_⟩ (Tch.refl _ _)
  match i with
  | i + 1 => cases hi
  | 0 =>
    obtain rfl : bs = r := by simpa using hi
    rcases ha.2.2 with ⟨h1, h0⟩ | ⟨g, cap, cur, e1, _, hh, hc, hm, _, hp⟩
    · have : bs = [] := List.eq_nil_of_length_eq_zero (by omega)
      subst this
      have e2 : A = none ∧ c = 0 := by injection h1 with p1 p2 p3; exact ⟨p1, p3⟩
      exact ⟨A, c, by rw [hn]; rfl, by simp, by rw [e2.2]; exact Nat.zero_le _, fun k b hb => by cases hb⟩
    · have e2 : A = some ⟨g, 0, none⟩ ∧ c = cap := by injection e1 with p1 p2 p3; exact ⟨p1, p3⟩
      refine ⟨A, c, by rw [hn]; rfl, by omega, by omega, fun k b hb => ?_⟩
      have hk : k < n := by
        rw [hn]
        rcases Nat.lt_or_ge k bs.length with h | h
        · exact h
        · rw [List.getElem?_eq_none h] at hb; cases hb
      refine ⟨g, 0, e2.1, .inl (ha.1 g (by rw [e2.1]; rfl)), heap_lt hh, ?_⟩
      rw [cell_of_row W g (0 + k) _ _ _ hh, Nat.zero_add]
      have h3 : (cur.toList.take (n * 1))[k]? = some (Value.int .u8 b.toNat) := by rw [hp]; unfold bvL; rw [List.getElem?_map, hb]; rfl
      rw [Nat.mul_one, List.getElem?_take_of_lt (by omega)] at h3
      simpa using h3
def be8 (n : Nat) : List UInt8 := (List.range 8).map fun i => UInt8.ofNat (n / 2 ^ (8 * (7 - i)))
theorem be8_len (n : Nat) : (be8 n).length = 8 := by simp [be8]
theorem BytesIn.below {W W' : World} {A : Option Addr} {r : List UInt8} (h : BytesIn W A r) (hb : Below W.heap.size W W') : BytesIn W' A r := fun i b hi => by
  obtain ⟨g, o, e, hg, hc⟩ := h i b hi
  exact ⟨g, o, e, Nat.lt_of_lt_of_le hg hb.size, (hb.cell (p := ⟨g, o + i, none⟩) hg).trans hc⟩
end
end Go.Cu
namespace Go.Proofs.YtnakbdgoaepehaaDoor
open Go.RowKit Go.Cu
def lenOf : Value → Nat
  | .slice _ n _ => n
  | _ => 0
theorem be5 : ByteElem Tryd.prog 5 := ⟨by kernel_rfl, Tryd.underlying5⟩
theorem u8_cast (m : Nat) : ((UInt8.ofNat m).toNat : Int) = (m : Int) % 256 := by
  rw [UInt8.toNat_ofNat']
  omega
theorem results_cell {fn : Func} {p : Tmp} {ty e : TypeId} {n : Nat} (h : fn.results = #[.cell p ty]) (tmps : Array Value) (P : Program) (w : World) (g : Nat) (t' : TypeId) (cs : Array Value) (fr : Nat × Nat)
    (hp : tmps.getD p undef = .pointer (some ⟨g, 0, none⟩)) (hg : w.heap[g]? = some (.cells cs t' fr))
    (hu : P.underlying ty = some (.array n e)) (hi : (P.info? ty).map (·.size) = some cs.size) :
    (results fn tmps).run P w = .ok (.agg cs) w := by
  have hp' : tmps[p]?.getD undef = .pointer (some ⟨g, 0, none⟩) := by simpa using hp
  have hl := run_loadVar_row (P := P) w g t' ty cs fr _ hg hu rfl hi
  simp [results, h, hp', asAddr, hl]
theorem be8_get (n : Nat) {k : Nat} (hk : k < 8) : (be8 n)[k]? = some (UInt8.ofNat (n / 2 ^ (8 * (7 - k)))) := by
  unfold be8
  rw [List.getElem?_map, List.getElem?_range hk]
  rfl
theorem info5 : (Tryd.prog.info? 5).map (fun i => (i.zero, i.size, i.bytes)) = some (some (.int .u8 0), 1, 1) := by kernel_rfl
section
variable {W0 W : World} {L : List Atm}
theorem blk_cell {g : Nat} {cs : Array Value} {t : TypeId} (h : St W0 (Blk g cs t :: L) W) (i : Nat) : W.cell? ⟨g, i, none⟩ = cs[i]? := cell_of_row W g i _ _ _ h.blk
end
end Go.Proofs.YtnakbdgoaepehaaDoor
