/- A row of keys, sorted by the library's sort. -/
import Derived.Test.YtnakbdgoaepehaaKeyOrder
import Derived.Sort.OwnSorted
namespace Go.Cu
open Go Go.RowKit Go.Sort
abbrev Key32 := { l : List UInt8 // l.length = 32 }
instance : Inhabited Key32 := ⟨⟨List.replicate 32 0, by simp⟩⟩
def encK (x : Key32) : List Value := bvL x.1
def ordK (x y : Key32) : Int := ordB x.1 y.1
theorem ltOf_ordK (x y : Key32) : Go.Proofs.ltOf ordK x y = ltB x.1 y.1 := ordB_neg x.1 y.1
theorem ltB_connex {a b : List UInt8} (ha : a.length = 32) (hb : b.length = 32) (h1 : ltB a b = false) (h2 : ltB b a = false) : a = b := by
  by_cases h : a = b
  · exact h
  · rcases ltB_total ha hb h with e | e
    · rw [h1] at e; cases e
    · rw [h2] at e; cases e
theorem ltB_ntrans {a b c : List UInt8} (hb : b.length = 32) (hc : c.length = 32) (h1 : ltB a b = false) (h2 : ltB b c = false) : ltB a c = false := by
  cases h : ltB a c with
  | false => rfl
  | true =>
    by_cases e : b = c
    · subst e; rw [h1] at h; cases h
    · rcases ltB_total hb hc e with e1 | e1
      · rw [h2] at e1; cases e1
      · rw [ltB_trans h e1] at h1; cases h1
theorem swoK : SWO (Go.Proofs.ltOf ordK) where
  irrefl x := by rw [ltOf_ordK]; exact ltB_self _
  trans x y z := by simp only [ltOf_ordK]; exact ltB_trans
  ntrans x y z := by simp only [ltOf_ordK]; exact ltB_ntrans y.2 z.2
theorem totK (x y : Key32) (h1 : Go.Proofs.ltOf ordK x y = false) (h2 : Go.Proofs.ltOf ordK y x = false) : x = y := by
  rw [ltOf_ordK] at h1 h2
  exact Subtype.ext (ltB_connex x.2 y.2 h1 h2)
def ofKs (ks : Ks) (h : All32 ks) : List Key32 := ks.attach.map fun x => ⟨x.1, h x.1 x.2⟩
theorem ofKs_val (ks : Ks) (h : All32 ks) : (ofKs ks h).map (·.1) = ks := by
  unfold ofKs
  rw [List.map_map]
  exact List.attach_map_subtype_val ks
theorem flatK_keys (l : List Key32) : flatK encK 32 l.toArray = (keysL (l.map (·.1))).toArray := by
  have ha : All32 (l.map (·.1)) := fun x hx => by
    obtain ⟨y, _, rfl⟩ := List.mem_map.1 hx
    exact y.2
  have hs : (flatK encK 32 l.toArray).size = ((keysL (l.map (·.1))).toArray).size := by
    rw [size_flatK, List.size_toArray, List.size_toArray, keysL_len ha, List.length_map]
  refine ext_get! hs fun t ht => ?_
  rw [size_flatK, List.size_toArray] at ht
  have hd : t / 32 < l.length := by omega
  have hm : t % 32 < 32 := Nat.mod_lt _ (by omega)
  rw [get_flatK _ _ _ t (by simpa using ht)]
  have hg : l.toArray[t / 32]! = l[t / 32] := by simp [hd]
  have h5 := fm_get (l.map (·.1)) (t / 32) (t % 32) (l[t / 32]).1 ha.len (by rw [List.getElem?_map, List.getElem?_eq_getElem hd]; rfl) hm
  rw [Nat.div_add_mod'] at h5
  have hl : (bvL (l[t / 32]).1).length = 32 := (bvL_len _).trans (l[t / 32]).2
  have h6 : (encK l.toArray[t / 32]!)[t % 32]! = (bvL (l[t / 32]).1)[t % 32]'(by omega) := by
    rw [hg]; unfold encK
    exact getElem!_pos _ _ (by omega)
  have hl2 : t < (keysL (l.map (·.1))).length := by rw [keysL_len ha, List.length_map]; exact ht
  have h7 : ((keysL (l.map (·.1))).toArray)[t]! = (keysL (l.map (·.1)))[t]'hl2 := getElem!_pos _ _ (by simpa using hl2)
  rw [h6, h7]
  rw [List.getElem?_eq_getElem (by omega : t % 32 < (bvL (l[t / 32]).1).length)] at h5
  have h8 : (keysL (l.map (·.1)))[t]? = some ((keysL (l.map (·.1)))[t]'hl2) := List.getElem?_eq_getElem hl2
  exact (Option.some.inj (h8.symm.trans h5)).symm
theorem holds_row {w : World} {g : Nat} {cur : Array Value} {e : TypeId} {xs : List Value} (hb : w.heap[g]? = some (.cells cur e (0, 0))) (ht : cur.toList.take xs.length = xs) : Holds id w g 0 xs.toArray := by
  intro j hj
  have hj' : j < xs.length := by simpa using hj
  refine ⟨?_, by simp [World.frozen?, hb]⟩
  have h1 : (cur.toList.take xs.length)[j]? = xs[j]? := by rw [ht]
  rw [List.getElem?_take_of_lt hj'] at h1
  simp only [World.cell?, hb, Nat.zero_add]
  simp only [Option.isSome_none, Bool.false_eq_true, if_false]
  rw [← Array.getElem?_toList, h1]
  simp [hj']
theorem heap_row {w : World} {g n : Nat} {os : Array Obj} {cur : Array Value} {e : TypeId} {fr : Nat × Nat} (d : Array Value) (hb : w.heap[g]? = some (.cells cur e fr)) :
    (grow (putRow id (Sort.ahead w n) g 0 d) os).heap[g]? = some (.cells (putCells id 0 d cur) e fr) := by
  have hg : g < w.heap.size := (Array.getElem?_eq_some_iff.1 hb).1
  rw [heap_grow_old _ _ (by simpa using hg)]
  simp [putRow, mapBlock, Sort.ahead, Array.getElem?_modify, hb, onCells]
theorem tch_row {w : World} {g n : Nat} {os : Array Obj} (d : Array Value) {F : Nat → Prop} (hF : F g) : Tch F w (grow (putRow id (Sort.ahead w n) g 0 d) os) := by
  refine ⟨rfl, rfl, rfl, by simp, fun k hk hne => ?_⟩
  rw [heap_grow_old _ _ (by simpa using hk)]
  have : g ≠ k := fun e => hne (by rw [← e]; exact hF)
  simp [putRow, mapBlock, Sort.ahead, Array.getElem?_modify, this]
theorem take_row (cur : Array Value) (xs : List Value) (h : xs.length ≤ cur.size) : (putCells id 0 xs.toArray cur).toList.take xs.length = xs := by
  apply List.ext_getElem?
  intro j
  by_cases hj : j < xs.length
  · rw [List.getElem?_take_of_lt hj, Array.getElem?_toList]
    simp [putCells, hj, show j < cur.size by omega]
  · rw [List.getElem?_take_eq_none (by omega), List.getElem?_eq_none (by omega)]
end Go.Cu
namespace Go.Proofs.Ytnakbdgoaepehaa
open Go.RowKit Go.Cu Go.Sort
variable {W0 W : World} {L : List Atm} {A : Option Addr} {n c : Nat} {ks : Ks}
theorem enters32 : ∀ args w, (callFunc 32 args).run Try.prog w = .ok (.enter 32 args) w := enters_of Try.func32 (by kernel_rfl) rfl
theorem ksort_st (h : St W0 (Row (.slice A n c) 23 32 n (keysL ks) :: L) W) (hl : ks.length = n) (ha : All32 ks) (hn : n ≤ 1000) :
    Calls Try.prog 41 #[.slice A n c, .func (.func 32) #[] #[]] W fun r w' => r = .returned (.tuple #[]) ∧ ∃ ms, ms.length = n ∧ Weak ms ∧ (∀ x, x ∈ ms ↔ x ∈ ks) ∧ St W0 (Row (.slice A n c) 23 32 n (keysL ms) :: L) w' := by
  by_cases h0 : n = 0
  · subst h0
    obtain rfl : ks = [] := List.length_eq_zero_iff.1 hl
    refine (AnyF.slices_SortFunc_none Try.sortKey A c (.func (.func 32) #[] #[]) W).mono fun r w' ⟨hr, hw⟩ => ⟨hr, [], rfl, List.Pairwise.nil, fun _ => Iff.rfl, ?_⟩
    rw [hw]; exact h
  · obtain ⟨g, cur, rfl, hb, h1, h2, h3, h4⟩ := krow_block h h0
    have hg : g < W.heap.size := (Array.getElem?_eq_some_iff.1 hb).1
    have hv := ofKs_val ks ha
    have hsz : (ofKs ks ha).length = n := by rw [← hl, ← congrArg List.length hv, List.length_map]
    have hH : HoldsK encK 32 W g 0 (ofKs ks ha).toArray := by
      unfold HoldsK
      rw [flatK_keys, hv]
      refine holds_row hb ?_
      rw [keysL_len ha, hl]; exact h4
    have hcmp : CmpLays Try.prog 32 #[] encK 32 ordK g 0 (ofKs ks ha).toArray.size W := fun m os dk hs x y => order_grow x.1 y.1 _ x.2 y.2
    have hS := AnyQ.slices_SortFunc_total Try.sortKey 32 Try.isAgg23 Try.sizeOf23 encK (fun x => (bvL_len x.1).trans x.2) (fun x => bvL_one x.1) ordK swoK 32 #[] g 0 c (ofKs ks ha).toArray W enters32 hcmp hH hg (by simp [hsz]; omega) totK
    rw [List.size_toArray, hsz] at hS
    refine hS.mono fun r w' ⟨hr, q, os, hw⟩ => ⟨hr, ?_⟩
    generalize hM : (ofKs ks ha).toArray.toList.mergeSort (fun x y => !(ltOf ordK) y x) = M at hw
    have hp : M.Perm (ofKs ks ha) := by rw [← hM]; exact List.mergeSort_perm _ _
    have hml : (M.map (·.1)).length = n := by rw [List.length_map, hp.length_eq, hsz]
    have hma : All32 (M.map (·.1)) := fun x hx => by
      obtain ⟨y, _, rfl⟩ := List.mem_map.1 hx
      exact y.2
    refine ⟨M.map (·.1), hml, ?_, ?_, ?_⟩
    · have hs : M.Pairwise fun x y => (!(ltOf ordK) y x) = true := by
        rw [← hM]
        refine List.pairwise_mergeSort (fun a b c h1 h2 => ?_) (fun a b => ?_) _
        · simp only [ltOf_ordK, Bool.not_eq_true'] at h1 h2 ⊢
          exact ltB_ntrans b.2 a.2 h2 h1
        · simp only [ltOf_ordK, Bool.or_eq_true, Bool.not_eq_true']
          cases e : ltB b.1 a.1 with
          | false => exact .inl rfl
          | true => exact .inr (ltB_asymm e)
      unfold Weak
      rw [List.pairwise_map]
      exact hs.imp fun {x y} h => by simpa [ltOf_ordK] using h
    · intro x
      have : M.map (·.1) |>.Perm ks := by
        have := hp.map (·.1)
        rwa [hv] at this
      exact this.mem_iff
    · unfold sortWorldK putRowK at hw
      rw [flatK_keys] at hw
      subst hw
      have hkl : (keysL (M.map (·.1))).length = n * 32 := by rw [keysL_len hma, hml]
      refine h.grow ⟨hkl, .inr ⟨g, c, _, rfl, Nat.zero_le _, heap_row _ hb, h1, h2, by simp [putCells, h3], ?_⟩⟩ (tch_row _ rfl) (.inl rfl)
      rw [← hkl]
      exact take_row cur _ (by rw [hkl, h3]; exact Nat.mul_le_mul_right _ h1)
end Go.Proofs.Ytnakbdgoaepehaa
