/- The document's parts, eight of them, in one block; a cache that isn't there, a part that isn't there. -/
import Derived.Test.YtnakbdgoaepehaaRefSame
namespace Go.Cu
open Go Go.RowKit
def refL (size : Nat) (r : Value × Pt) : List Value := [.int .i64 size, r.1, .int .i64 r.2.hits, .int .i64 r.2.misses]
def refC (size : Nat) (rs : List (Value × Pt)) : Array Value := (rs.flatMap (refL size)).toArray
theorem refL_get {size : Nat} : ∀ {rs : List (Value × Pt)} {i : Nat} {r : Value × Pt} (j : Nat), rs[i]? = some r → j < 4 → (rs.flatMap (refL size))[i * 4 + j]? = (refL size r)[j]?
  | x :: rs, 0, r, j, h, hj => by
    obtain rfl : x = r := by simpa using h
    rw [List.flatMap_cons, List.getElem?_append_left (by show _ < 4; omega)]
    congr 1
    omega
  | x :: rs, i + 1, r, j, h, hj => by
    rw [List.flatMap_cons, List.getElem?_append_right (by show 4 ≤ _; omega)]
    have := refL_get (size := size) (rs := rs) (i := i) j (by simpa using h) hj
    rw [← this]
    congr 1
    show (i + 1) * 4 + j - 4 = _
    omega
theorem refL_set {size : Nat} (v : Value) (p : Pt) : ∀ {rs : List (Value × Pt)} {i : Nat}, i < rs.length →
    (((rs.flatMap (refL size)).set (i * 4 + 1) v).set (i * 4 + 2) (.int .i64 p.hits)).set (i * 4 + 3) (.int .i64 p.misses) = (rs.set i (v, p)).flatMap (refL size)
  | x :: rs, 0, _ => rfl
  | x :: rs, i + 1, h => by
    have ih := refL_set (size := size) v p (rs := rs) (i := i) (by simpa using h)
    rw [List.flatMap_cons, List.set_cons_succ, List.flatMap_cons, ← ih]
    have e : ∀ j, (i + 1) * 4 + j = 4 + (i * 4 + j) := fun j => by omega
    simp only [e]
    have hs : ∀ (T : List Value) (n : Nat) (y : Value), (refL size x ++ T).set (4 + n) y = refL size x ++ T.set n y := fun T n y => by
      rw [List.set_append_right _ _ (by show 4 ≤ _; omega)]
      congr 2
      show 4 + n - 4 = n
      omega
    rw [hs, hs, hs]
theorem refC_set {size : Nat} {rs : List (Value × Pt)} {i : Nat} (h : i < rs.length) (v : Value) (p : Pt) : refSet (refC size rs) (i * 4) v p.hits p.misses = refC size (rs.set i (v, p)) := by
  unfold refSet refC
  rw [← refL_set v p h]
  simp
theorem refC_at {size : Nat} {rs : List (Value × Pt)} {i : Nat} (h : i < rs.length) : RefAt (refC size rs) (i * 4) size rs[i].1 rs[i].2 := by
  have hr : rs[i]? = some rs[i] := List.getElem?_eq_getElem h
  unfold refC
  refine ⟨?_, ?_, ?_, ?_⟩
  · rw [List.getElem?_toArray]; exact refL_get 0 hr (by decide)
  · rw [List.getElem?_toArray]; exact refL_get 1 hr (by decide)
  · rw [List.getElem?_toArray]; exact refL_get 2 hr (by decide)
  · rw [List.getElem?_toArray]; exact refL_get 3 hr (by decide)
theorem refSet_same {cs : Array Value} {o size : Nat} {v : Value} {p : Pt} (h : RefAt cs o size v p) : refSet cs o v p.hits p.misses = cs := by
  unfold refSet
  rw [set_same h.c1, set_same h.c2, set_same h.c3]
end Go.Cu
namespace Go.Proofs.Ytnakbdgoaepehaa
open Go.RowKit Go.Cu
abbrev refRow (r : Value × Pt) : Atm := Row r.1 85 2 r.2.l.length (pairsL r.2.l)
/-- The document's parts. -/
def RefA (b size : Nat) (ps : List Pt) : Atm := Ex fun rs : List (Value × Pt) => Grp (Fact (rs.map (·.2) = ps) :: Blk b (refC size rs) 54 :: rs.map refRow)
section
variable {W0 W : World} {L : List Atm} {b size : Nat} {ps : List Pt}
theorem _root_.Go.Cu.St.refIn (h : St W0 (RefA b size ps :: L) W) {i : Nat} (hi : i < ps.length) : ∃ (v : Value) (cs : Array Value) (M : List Atm), St W0 (Blk b cs 54 :: Row v 85 2 ps[i].l.length (pairsL ps[i].l) :: (M ++ L)) W ∧ RefAt cs (i * 4) size v ps[i] ∧
    ∀ X L v' p', St W0 (Blk b (refSet cs (i * 4) v' p'.hits p'.misses) 54 :: Row v' 85 2 p'.l.length (pairsL p'.l) :: (M ++ L)) X → St W0 (RefA b size (ps.set i p') :: L) X := by
  obtain ⟨rs, h1⟩ := h.unex
  obtain ⟨rfl, h2⟩ := h1.ungrp.unfact
  have hq : i < rs.length := by simpa using hi
  have hsp : rs = rs.take i ++ rs[i] :: rs.drop (i + 1) := by rw [List.getElem_cons_drop, List.take_append_drop]
  refine ⟨rs[i].1, refC size rs, (rs.take i).map refRow ++ (rs.drop (i + 1)).map refRow, ?_, ?_, fun X L v' p' hX => ?_⟩
  · rw [List.getElem_map]
    refine h2.perm ?_
    have e1 : rs.map refRow = (rs.take i).map refRow ++ refRow rs[i] :: (rs.drop (i + 1)).map refRow := by
      conv => lhs; rw [hsp]
      rw [List.map_append, List.map_cons]
    show List.Perm (Blk b (refC size rs) 54 :: (rs.map refRow ++ L)) _
    rw [e1]
    simp only [List.cons_append, List.append_assoc]
    exact List.Perm.cons _ (List.perm_middle (l₁ := (rs.take i).map refRow))
  · rw [List.getElem_map]
    exact refC_at hq
  · rw [refC_set hq] at hX
    have e4 : (rs.map (·.2)).set i p' = (rs.set i (v', p')).map (·.2) := by rw [List.map_set]
    have e5 : (rs.set i (v', p')).map refRow = (rs.take i).map refRow ++ refRow (v', p') :: (rs.drop (i + 1)).map refRow := by
      rw [List.set_eq_take_append_cons_drop, if_pos hq, List.map_append, List.map_cons]
    rw [e4]
    refine St.ex (P := fun rs' : List (Value × Pt) => Grp (Fact (rs'.map (·.2) = (rs.set i (v', p')).map (·.2)) :: Blk b (refC size rs') 54 :: rs'.map refRow)) (rs.set i (v', p')) (St.grp (M := Fact _ :: Blk b (refC size (rs.set i (v', p'))) 54 :: (rs.set i (v', p')).map refRow) (St.fact rfl ?_))
    show St W0 (Blk b (refC size (rs.set i (v', p'))) 54 :: ((rs.set i (v', p')).map refRow ++ L)) X
    rw [e5]
    simp only [List.cons_append, List.append_assoc] at hX ⊢
    exact hX.perm (List.Perm.cons _ (List.perm_middle (l₁ := (rs.take i).map refRow)).symm)
theorem _root_.Go.Cu.St.refNew (h : St W0 (Blk b (refC size (List.replicate 8 (.slice none 0 0, p0))) 54 :: L) W) : St W0 (RefA b size (List.replicate 8 p0) :: L) W := by
  refine St.ex (P := fun rs' : List (Value × Pt) => Grp (Fact (rs'.map (·.2) = List.replicate 8 p0) :: Blk b (refC size rs') 54 :: rs'.map refRow)) (List.replicate 8 (.slice none 0 0, p0)) (St.grp (M := Fact _ :: Blk b (refC size (List.replicate 8 (.slice none 0 0, p0))) 54 :: (List.replicate 8 (.slice none 0 0, p0)).map refRow) (St.fact rfl ?_))
  have h8 := (((((((h.nilRow 85 2).nilRow 85 2).nilRow 85 2).nilRow 85 2).nilRow 85 2).nilRow 85 2).nilRow 85 2).nilRow 85 2
  exact h8.perm (List.perm_middle (l₁ := [_, _, _, _, _, _, _, _]))
theorem rget_st (h : St W0 (RefA b size ps :: L) W) {i : Nat} (hi : i < ps.length) (ho : ps[i].Ok size) (hs : size ≤ 256) (hh : ps[i].hits + ps[i].misses ≤ 1000000) (k : Str) :
    Calls Try.prog 26 #[.pointer (some ⟨b, i * 4, none⟩), .string (strB k)] W fun r w' => r = .returned (.tuple #[.string (strB ((ps[i].get k).1.getD [])), .bool (ps[i].get k).1.isSome]) ∧ St W0 (RefA b size (ps.set i (ps[i].get k).2) :: L) w' := by
  obtain ⟨v, cs, M, h1, hr, hb⟩ := h.refIn hi
  exact (docget_st h1 hr ho hs hh k).mono fun r w' ⟨hx, v', hv⟩ => ⟨hx, hb _ _ v' _ hv⟩
theorem rput_st (h : St W0 (RefA b size ps :: L) W) {i : Nat} (hi : i < ps.length) (ho : ps[i].Ok size) (hs : size ≤ 256) (k x : Str) :
    Calls Try.prog 27 #[.pointer (some ⟨b, i * 4, none⟩), .string (strB k), .string (strB x)] W fun r w' => r = .returned (.tuple #[]) ∧ St W0 (RefA b size (ps.set i (ps[i].put size k x)) :: L) w' := by
  obtain ⟨v, cs, M, h1, hr, hb⟩ := h.refIn hi
  exact (docput_st h1 hr ho hs k x).mono fun r w' ⟨hx, v', hv⟩ => ⟨hx, hb _ _ v' _ hv⟩
/-- All of a part dropped, by a store. -/
theorem rdrop_at (h : St W0 (RefA b size ps :: L) W) {i : Nat} (hi : i < ps.length) : (∃ v, W.cell? ⟨b, i * 4 + 1, none⟩ = some v) ∧ W.frozen? ⟨b, i * 4 + 1, none⟩ = false ∧
    St W0 (RefA b size (ps.set i ps[i].drop) :: L) (W.setCell ⟨b, i * 4 + 1, none⟩ (.slice none 0 0)) := by
  obtain ⟨v, cs, M, h1, hr, hb⟩ := h.refIn hi
  refine ⟨⟨v, (ref_cells h1 hr).2.1⟩, frozen_of_row W b _ _ _ h1.blk, hb _ _ (.slice none 0 0) _ ?_⟩
  have h2 := (h1.setCell (i * 4 + 1) (.slice none 0 0)).at2.drop.nilRow 85 2
  have e1 : refSet cs (i * 4) (.slice none 0 0) ps[i].drop.hits ps[i].drop.misses = cs.setIfInBounds (i * 4 + 1) (.slice none 0 0) := by
    unfold refSet
    rw [set_same (i := i * 4 + 2) (by rw [Array.getElem?_setIfInBounds_ne (by omega)]; exact hr.c2), set_same (i := i * 4 + 3) (by rw [Array.getElem?_setIfInBounds_ne (by omega)]; exact hr.c3)]
  rw [e1]
  exact h2.at2
theorem rsame_st {N g : Nat} {rps : List Pt} (h : St W0 (CacheA N g size ps :: RefA b size rps :: L) W) {i : Nat} (hi : i < ps.length) (hir : i < rps.length) (he : rps[i] = ps[i]) (hl : ps[i].l.length ≤ 100000) :
    Calls Try.prog 28 #[ptrV g, .int .i64 i, .pointer (some ⟨b, i * 4, none⟩)] W fun r w' => r = .returned (.bool true) ∧ St W0 (CacheA N g size ps :: RefA b size rps :: L) w' := by
  obtain ⟨v, cs, M, h1, hr, hb⟩ := h.at2.refIn hir
  rw [he] at h1 hr
  have h2 : St W0 (CacheA N g size ps :: Blk b cs 54 :: Row v 85 2 ps[i].l.length (pairsL ps[i].l) :: (M ++ L)) W := h1.perm (List.perm_middle (l₁ := Blk b cs 54 :: Row v 85 2 ps[i].l.length (pairsL ps[i].l) :: M))
  refine (same_st hi h2 hr hl).mono fun r w' ⟨hx, hs⟩ => ⟨hx, ?_⟩
  have h3 := hs.perm (List.perm_middle (l₁ := Blk b cs 54 :: Row v 85 2 ps[i].l.length (pairsL ps[i].l) :: M)).symm
  have h4 := hb w' (CacheA N g size ps :: L) v ps[i] (by rw [refSet_same hr]; exact h3)
  rw [← he, List.set_getElem_self] at h4
  exact h4.at2
end
theorem cget_nil (i : Int) (s : ByteArray) (W : World) : Calls Try.prog 23 #[.pointer none, .int .i64 i, .string s] W fun r w' => r = .returned (.tuple #[.string { data := #[] }, .bool false]) ∧ W = w' := by
  go_enter Try.func23, Try.ntmps23
  go_wp2_with (go_at_call 34; (with_reducible refine (cpart_nil _ _).mono ?_); rintro r w1 ⟨rfl, rfl⟩)
  go_ret2
  exact ⟨rfl, rfl⟩
theorem chits_nil (i : Int) (W : World) : Calls Try.prog 24 #[.pointer none, .int .i64 i] W fun r w' => r = .returned (.tuple #[.int .i64 0, .int .i64 0]) ∧ W = w' := by
  go_enter Try.func24, Try.ntmps24
  go_wp2_with (go_at_call 34; (with_reducible refine (cpart_nil _ _).mono ?_); rintro r w1 ⟨rfl, rfl⟩)
  go_ret2
  exact ⟨rfl, rfl⟩
theorem cput_nil (i : Int) (s x : ByteArray) (W : World) : Calls Try.prog 20 #[.pointer none, .int .i64 i, .string s, .string x] W fun r w' => r = .returned (.int .i64 1) ∧ W = w' := by
  go_enter Try.func20, Try.ntmps20
  go_wp2_with (go_at_call 34; (with_reducible refine (cpart_nil _ _).mono ?_); rintro r w1 ⟨rfl, rfl⟩)
  go_ret
  exact ⟨rfl, rfl⟩
theorem cdrop_nil (i : Int) (W : World) : Calls Try.prog 25 #[.pointer none, .int .i64 i] W fun r w' => r = .returned (.int .i64 1) ∧ W = w' := by
  go_enter Try.func25, Try.ntmps25
  go_wp2_with (go_at_call 34; (with_reducible refine (cpart_nil _ _).mono ?_); rintro r w1 ⟨rfl, rfl⟩)
  go_ret
  exact ⟨rfl, rfl⟩
theorem cnms_nil (i : Int) (W : World) : Calls Try.prog 21 #[.pointer none, .int .i64 i] W fun r w' => r = .returned (.slice none 0 0) ∧ W = w' := by
  go_enter Try.func21, Try.ntmps21
  go_wp2_with (go_at_call 34; (with_reducible refine (cpart_nil _ _).mono ?_); rintro r w1 ⟨rfl, rfl⟩)
  go_ret
  exact ⟨rfl, rfl⟩
section
variable {W : World} {g n c : Nat} {A : Option Addr} {i : Int}
theorem cget_out (h0 : W.cell? ⟨g, 1, none⟩ = some (.slice A n c)) (hi : i < 0 ∨ (n : Int) ≤ i) (s : ByteArray) : Calls Try.prog 23 #[ptrV g, .int .i64 i, .string s] W fun r w' => r = .returned (.tuple #[.string { data := #[] }, .bool false]) ∧ W = w' := by
  have HP := hid (cpart_out h0 hi)
  clear h0 hi
  go_enter Try.func23, Try.ntmps23
  go_wp2_with (go_at_call 34; (with_reducible refine HP.out.mono ?_); rintro r w1 ⟨rfl, rfl⟩)
  go_ret2
  exact ⟨rfl, rfl⟩
theorem chits_out (h0 : W.cell? ⟨g, 1, none⟩ = some (.slice A n c)) (hi : i < 0 ∨ (n : Int) ≤ i) : Calls Try.prog 24 #[ptrV g, .int .i64 i] W fun r w' => r = .returned (.tuple #[.int .i64 0, .int .i64 0]) ∧ W = w' := by
  have HP := hid (cpart_out h0 hi)
  clear h0 hi
  go_enter Try.func24, Try.ntmps24
  go_wp2_with (go_at_call 34; (with_reducible refine HP.out.mono ?_); rintro r w1 ⟨rfl, rfl⟩)
  go_ret2
  exact ⟨rfl, rfl⟩
theorem cput_out (h0 : W.cell? ⟨g, 1, none⟩ = some (.slice A n c)) (hi : i < 0 ∨ (n : Int) ≤ i) (s x : ByteArray) : Calls Try.prog 20 #[ptrV g, .int .i64 i, .string s, .string x] W fun r w' => r = .returned (.int .i64 1) ∧ W = w' := by
  have HP := hid (cpart_out h0 hi)
  clear h0 hi
  go_enter Try.func20, Try.ntmps20
  go_wp2_with (go_at_call 34; (with_reducible refine HP.out.mono ?_); rintro r w1 ⟨rfl, rfl⟩)
  go_ret
  exact ⟨rfl, rfl⟩
theorem cdrop_out (h0 : W.cell? ⟨g, 1, none⟩ = some (.slice A n c)) (hi : i < 0 ∨ (n : Int) ≤ i) : Calls Try.prog 25 #[ptrV g, .int .i64 i] W fun r w' => r = .returned (.int .i64 1) ∧ W = w' := by
  have HP := hid (cpart_out h0 hi)
  clear h0 hi
  go_enter Try.func25, Try.ntmps25
  go_wp2_with (go_at_call 34; (with_reducible refine HP.out.mono ?_); rintro r w1 ⟨rfl, rfl⟩)
  go_ret
  exact ⟨rfl, rfl⟩
theorem cnms_out (h0 : W.cell? ⟨g, 1, none⟩ = some (.slice A n c)) (hi : i < 0 ∨ (n : Int) ≤ i) : Calls Try.prog 21 #[ptrV g, .int .i64 i] W fun r w' => r = .returned (.slice none 0 0) ∧ W = w' := by
  have HP := hid (cpart_out h0 hi)
  clear h0 hi
  go_enter Try.func21, Try.ntmps21
  go_wp2_with (go_at_call 34; (with_reducible refine HP.out.mono ?_); rintro r w1 ⟨rfl, rfl⟩)
  go_ret
  exact ⟨rfl, rfl⟩
theorem cache_slice {W0 : World} {L : List Atm} {N g size : Nat} {ps : List Pt} (h : St W0 (CacheA N g size ps :: L) W) : ∃ A c, W.cell? ⟨g, 1, none⟩ = some (.slice A ps.length c) := by
  obtain ⟨v, qs, rfl, h1⟩ := h.cache
  obtain ⟨A, c, rfl, _⟩ := row_slice h1.at2
  refine ⟨A, c, ?_⟩
  rw [List.length_map]
  exact (cache_cells h1).2
end
end Go.Proofs.Ytnakbdgoaepehaa
