/- Parts of a cache, plainly. No program. -/
import Derived.Test.YtnakbdgoaepehaaArr
namespace Go.Cu
abbrev Str := List UInt8
/-- A part: what is kept, the last one used first; how often it told something, how often it didn't. -/
structure Pt where
  l : List (Str × Str)
  hits : Nat
  misses : Nat
def without (k : Str) (l : List (Str × Str)) : List (Str × Str) := l.filter fun x => decide (x.1 ≠ k)
def seek (k : Str) : List (Str × Str) → Option Str
  | [] => none
  | x :: l => if x.1 = k then some x.2 else seek k l
def keys (l : List (Str × Str)) : List Str := l.map (·.1)
theorem seek_none {k : Str} : ∀ {l : List (Str × Str)}, seek k l = none ↔ k ∉ keys l
  | [] => by simp [seek, keys]
  | x :: l => by
    have ih := @seek_none k l
    unfold keys at *
    rw [seek]
    by_cases h : x.1 = k
    · simp [h]
    · rw [if_neg h, ih, List.map_cons, List.mem_cons, not_or]
      exact ⟨fun h' => ⟨fun e => h e.symm, h'⟩, fun h' => h'.2⟩
theorem keys_without {k : Str} (l : List (Str × Str)) : keys (without k l) = (keys l).filter fun x => decide (x ≠ k) := by
  unfold keys without
  rw [List.filter_map]
  rfl
theorem seek_without {k j : Str} : ∀ (l : List (Str × Str)), seek j (without k l) = if j = k then none else seek j l
  | [] => by simp [seek, without]
  | x :: l => by
    have ih := seek_without (k := k) (j := j) l
    unfold without at *
    by_cases h : x.1 = k
    · rw [List.filter_cons_of_neg (by simpa using h), ih]
      by_cases hj : j = k
      · rw [if_pos hj, if_pos hj]
      · rw [if_neg hj, if_neg hj, seek, if_neg (by rw [h]; exact fun e => hj e.symm)]
    · rw [List.filter_cons_of_pos (by simpa using h), seek, ih, seek]
      by_cases hx : x.1 = j
      · rw [if_pos hx, if_pos hx, if_neg (by rw [← hx]; exact h)]
      · rw [if_neg hx, if_neg hx]
theorem without_none {k : Str} {l : List (Str × Str)} (h : k ∉ keys l) : without k l = l := by
  unfold without
  refine List.filter_eq_self.2 fun x hx => ?_
  simp only [decide_eq_true_eq]
  rintro rfl
  exact h (List.mem_map_of_mem hx)
/-- What a part keeps: each name once, no more than its places. -/
structure Pt.Ok (p : Pt) (size : Nat) : Prop where
  once : (keys p.l).Nodup
  few : p.l.length ≤ size
def Pt.get (p : Pt) (k : Str) : Option Str × Pt :=
  match seek k p.l with
  | none => (none, { p with misses := p.misses + 1 })
  | some v => (some v, { p with l := (k, v) :: without k p.l, hits := p.hits + 1 })
def Pt.put (p : Pt) (size : Nat) (k v : Str) : Pt := { p with l := ((k, v) :: without k p.l).take size }
def Pt.drop (p : Pt) : Pt := { p with l := [] }
theorem keys_length (l : List (Str × Str)) : (keys l).length = l.length := List.length_map _
theorem nodup_front {k : Str} {v : Str} {l : List (Str × Str)} (h : (keys l).Nodup) : (keys ((k, v) :: without k l)).Nodup := by
  show (k :: keys (without k l)).Nodup
  rw [List.nodup_cons, keys_without]
  exact ⟨by simp, h.filter _⟩
theorem length_front {k : Str} {l : List (Str × Str)} (hm : k ∈ keys l) (v : Str) (hd : (keys l).Nodup) : ((k, v) :: without k l).length = l.length := by
  rw [List.length_cons, ← keys_length (without k l), keys_without, ← keys_length l]
  have h1 := List.length_erase_of_mem hm
  have h2 : (keys l).filter (fun x => decide (x ≠ k)) = (keys l).erase k := by
    rw [hd.erase_eq_filter]
    congr 1
    funext x
    rw [bne]
    by_cases h : x = k <;> simp [h]
  rw [h2, h1]
  have := List.length_pos_of_mem hm
  omega
theorem Pt.Ok.get {p : Pt} {size : Nat} (h : p.Ok size) (k : Str) : (p.get k).2.Ok size := by
  unfold Pt.get
  cases hl : seek k p.l with
  | none => exact ⟨h.once, h.few⟩
  | some v =>
    have hm : k ∈ keys p.l := Decidable.byContradiction fun hc => by rw [seek_none.2 hc] at hl; cases hl
    exact ⟨nodup_front h.once, by show List.length ((k, v) :: without k p.l) ≤ _; rw [length_front hm v h.once]; exact h.few⟩
theorem Pt.Ok.put {p : Pt} {size : Nat} (h : p.Ok size) (k v : Str) : (p.put size k v).Ok size := by
  refine ⟨?_, by show (List.take _ _).length ≤ _; rw [List.length_take]; omega⟩
  show (keys (List.take _ _)).Nodup
  unfold keys
  rw [List.map_take]
  exact (nodup_front h.once).sublist (List.take_sublist _ _)
theorem Pt.Ok.drop {p : Pt} (size : Nat) : p.drop.Ok size := ⟨List.nodup_nil, Nat.zero_le _⟩
/-- The names as they lie: the last one used at the end. -/
def names (l : List (Str × Str)) : List Str := (keys l).reverse
theorem names_length (l : List (Str × Str)) : (names l).length = l.length := by
  unfold names
  rw [List.length_reverse, keys_length]
theorem names_front (k v : Str) (l : List (Str × Str)) : names ((k, v) :: l) = names l ++ [k] := List.reverse_cons
theorem nodup_cut {k : Str} : ∀ {n : List Str} {i : Nat}, n.Nodup → n[i]? = some k → n.take i ++ n.drop (i + 1) = n.filter fun x => decide (x ≠ k)
  | [], i, _, h => by simp at h
  | x :: n, 0, hn, h => by
    obtain rfl : x = k := by simpa using h
    rw [List.nodup_cons] at hn
    rw [List.filter_cons_of_neg (by simp)]
    simp only [List.take_zero, List.nil_append, List.drop_succ_cons, List.drop_zero, Nat.zero_add]
    refine (List.filter_eq_self.2 fun y hy => ?_).symm
    simp only [decide_eq_true_eq]
    rintro rfl
    exact hn.1 hy
  | x :: n, i + 1, hn, h => by
    rw [List.nodup_cons] at hn
    have h' : n[i]? = some k := by simpa using h
    have hm : k ∈ n := List.mem_of_getElem? h'
    rw [List.filter_cons_of_pos (by simp only [decide_eq_true_eq]; rintro rfl; exact hn.1 hm), List.take_succ_cons, List.drop_succ_cons, List.cons_append, nodup_cut hn.2 h']
/-- A name taken out at its place. -/
theorem names_without {k : Str} {l : List (Str × Str)} (h : (keys l).Nodup) {i : Nat} (hi : (names l)[i]? = some k) : (names l).take i ++ (names l).drop (i + 1) = names (without k l) := by
  have hn : (names l).Nodup := ((List.reverse_perm _).nodup_iff).2 h
  rw [nodup_cut hn hi]
  unfold names
  rw [keys_without, List.filter_reverse]
theorem seek_names {k : Str} {l : List (Str × Str)} : seek k l = none ↔ k ∉ names l := by
  rw [seek_none]
  unfold names
  rw [List.mem_reverse]
end Go.Cu
