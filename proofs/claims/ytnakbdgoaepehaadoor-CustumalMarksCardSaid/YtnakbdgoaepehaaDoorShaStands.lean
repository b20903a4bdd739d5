/- Does the sum stand? -/
import Derived.Test.YtnakbdgoaepehaaDoorShaAbc
import Derived.Lib.SlBytesConst
namespace Go.Cu
open Go Go.RowKit
section
variable {W0 W : World} {L : List Atm}
/-- A constant's bytes: the new row bears a mark behind its last cell. -/
theorem St.marked' (h : St W0 L W) (r : List UInt8) (e : TypeId) (n m : Nat) (hr : r.length ≤ maxLen) : St W0 (Vals [.slice (some ⟨W.heap.size, 0, none⟩) r.length r.length] [r] :: L) (W.alloc (.cells (bv r) e (n, m))) := by
  have hat : (W.alloc (.cells (bv r) e (n, m))).heap[W.heap.size]? = some (.cells (bv r) e (n, m)) := heap_alloc_at _ _ rfl
  refine h.push ((Below.refl _ _).alloc (Nat.le_refl _) _) ⟨rfl, fun i q hi => ?_⟩
  match i with
  | i + 1 => cases hi
  | 0 =>
    obtain rfl : r = q := by simpa using hi
    refine ⟨_, _, rfl, Nat.le_refl _, hr, fun k b hb => ⟨W.heap.size, 0, rfl, Nat.le_refl _, heap_lt hat, ?_⟩⟩
    rw [Nat.zero_add, cell_of_row _ W.heap.size k _ _ _ hat, bv_eq, List.getElem?_toArray]
    unfold bvL
    rw [List.getElem?_map, hb]
    rfl
end
end Go.Cu
namespace Go.Proofs.YtnakbdgoaepehaaDoor
open Go.RowKit Go.Cu
theorem zeroBYs (W : World) : (zeroValue 42).run Tryd.prog W = .ok (.slice none 0 0) W := by kernel_rfl
theorem sizeBYs : (Tryd.prog.info? 42).map (·.size) = some 1 := by kernel_rfl
section
variable {W0 W : World} {L : List Atm}
theorem abc_sha {X : World} {gs gb : Nat} (hX : St W0 (Blk gs #[.slice (some ⟨gb, 0, none⟩) 3 3] 42 :: Vals [.slice (some ⟨gb, 0, none⟩) 3 3] [[97, 98, 99]] :: L) X) (hG : Glob W0) :
    Calls Tryd.prog 16 #[.slice (some ⟨gs, 0, none⟩) 1 1] X fun x w' => x = .returned (.agg (bv abcO)) ∧ St W0 (Blk gs #[.slice (some ⟨gb, 0, none⟩) 3 3] 42 :: Vals [.slice (some ⟨gb, 0, none⟩) 3 3] [[97, 98, 99]] :: L) w' := by
  have hp : PartsIn W0 (Blk gs #[.slice (some ⟨gb, 0, none⟩) 3 3] 42 :: Vals [.slice (some ⟨gb, 0, none⟩) 3 3] [[97, 98, 99]] :: L) (some ⟨gs, 0, none⟩) [[97, 98, 99]] := fun i b hi => by
    match i with
    | i + 1 => cases hi
    | 0 =>
      obtain rfl : [97, 98, 99] = b := by simpa using hi
      exact ⟨gs, 0, some ⟨gb, 0, none⟩, 3, rfl, Nat.le_refl _, by decide, fun Y hY => ⟨(cell_of_row Y gs 0 _ _ _ hY.blk).trans rfl, (vals_one hY.at2 rfl).1⟩⟩
  have h := sha_st hX hG (c := 1) hp (by decide) (by decide)
  rw [show ([[97, 98, 99]] : List (List UInt8)).flatten = abcB from rfl, abc_sum] at h
  exact h
set_option maxRecDepth 20000 in
set_option maxHeartbeats 8000000 in
theorem stands_st (h : St W0 L W) (hG : Glob W0) : Calls Tryd.prog 12 #[] W fun x w' => x = .returned (.bool true) ∧ St W0 L w' := by
  have HH := hid h
  have kc := fun (w : World) (C : Array Value) (n c : Nat) => Lib.run_convert_bytes_const (P := Tryd.prog) w 42 5 C n c Tryd.underlying42 Tryd.underlying5
  have HS := hid (fun (X : World) (gs gb : Nat) hX => abc_sha (L := L) (gs := gs) (gb := gb) (X := X) hX hG)
  have HZ := hid (show (bv abcO).size = 32 by decide)
  have HZ32 := hid (show (bv (List.replicate 32 0)).size = 32 by rw [bv_size, List.length_replicate])
  clear h hG
  go_enter Tryd.func12, Tryd.ntmps12
  go_wp2_with (first | (refine wpList_buildSlice1 _ rfl (.slice (some ⟨W.heap.size, 0, none⟩) 3 3) (by simp [Act.eval]) rfl Tryd.underlying80 zeroBYs sizeBYs (by decide) (by decide) rfl ?_; intro gs X4 hS hgs hges hX1b; have H4 := hid (show St W0 (Blk gs #[.slice (some ⟨W.heap.size, 0, none⟩) 3 3] 42 :: Vals [.slice (some ⟨W.heap.size, 0, none⟩) 3 3] [[97, 98, 99]] :: L) X4 from (HH.out.marked' [97, 98, 99] 5 3 4 (by decide)).newBlk hX1b hges hS); clear hS hgs hges hX1b) | (go_at_call 16; (with_reducible refine (HS.out _ _ _ H4.out).mono ?_); rintro r w3 ⟨rfl, hs3⟩; have H5 := hid hs3; clear hs3) | (refine wpList_alloc 23 rfl rfl (.agg (bv (List.replicate 32 0))) zero54s ?_; intro go W5 h1 hl1 hg1 hW1; have H6 := hid (H5.out.newBlk hW1 hg1 h1); clear h1 hl1 hg1 hW1) | (refine wpList_store_box 23 _ _ rfl go rfl rfl (bv abcO) rfl 32 size54s HZ.out (bv_one _) 23 _ H6.out.blk HZ32.out ?_; intro W6 hB6 hT6 hs6; have H7 := hid (H6.out.put hB6 hT6); have c0 : W6.cell? ⟨go, 0, none⟩ = some (.int .u8 186) := (cell_of_row W6 go 0 _ _ _ H7.out.blk).trans rfl; have c31 : W6.cell? ⟨go, 31, none⟩ = some (.int .u8 173) := (cell_of_row W6 go 31 _ _ _ H7.out.blk).trans rfl; clear hB6 hT6 hs6))
  go_ret
  exact ⟨rfl, H7.out.drop.drop.drop⟩
end
end Go.Proofs.YtnakbdgoaepehaaDoor
