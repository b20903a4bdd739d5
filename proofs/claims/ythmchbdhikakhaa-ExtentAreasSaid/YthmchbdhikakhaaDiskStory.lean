/- The fixed disk story: disks. -/
import Derived.Test.YthmchbdhikakhaaDiskAny
import Derived.Test.YthmchbdhikakhaaDiskNew
import Derived.Test.YthmchbdhikakhaaDiskSync
import Derived.Test.YthmchbdhikakhaaDiskCrash
namespace Go.Proofs.Ythmchbdhikakhaa
open Go.RowKit Go.Cu
def T0 : DS := DS.new 2
def T1 : DS := (T0.write 0 (oneB 1)).1
def T2 : DS := T1.sync.1
def T3 : DS := (T2.write 0 (oneB 2)).1
def T4 : DS := (T3.write 1 (oneB 3)).1
def T5 : DS := T4.crash [false, true]
theorem T0_ok : T0.Ok 0 := DS.Ok.new (by decide)
theorem T1_ok : T1.Ok 1 := (T0_ok.put (i := 0) (by decide) (oneB_len 1))
theorem T2_ok : T2.Ok 1 := (T1_ok.settle _)
theorem T3_ok : T3.Ok 2 := (T2_ok.put (i := 0) (by decide) (oneB_len 2))
theorem T4_ok : T4.Ok 3 := (T3_ok.put (i := 1) (by decide) (oneB_len 3))
theorem T1_e : (T0.write 0 (oneB 1)).2 = 0 := rfl
theorem T2_e : T1.sync.2 = 0 := rfl
theorem T5_0 : (if T5.at_ 0 = 0 then T5.now.getD (0 : Int).toNat zeroB else zeroB) = oneB 1 := rfl
theorem T5_1 : (if T5.at_ 1 = 0 then T5.now.getD (1 : Int).toNat zeroB else zeroB) = oneB 3 := rfl
theorem T5_e0 : T5.at_ 0 = 0 := rfl
theorem T5_e1 : T5.at_ 1 = 0 := rfl
theorem T5_ok : T5.Ok 3 := T4_ok.crash _
theorem keep_row (W : World) (F : Nat → Prop) (hF : ∀ g, F g → g < W.heap.size) : ∀ j b, [false, true][j]? = some b → ∃ q, some (⟨W.heap.size, 0, none⟩ : Addr) = some q ∧ (q.add j).block < (W.alloc (Obj.cells #[Value.bool false, Value.bool true] 4)).heap.size ∧ ¬ F (q.add j).block ∧ (W.alloc (Obj.cells #[Value.bool false, Value.bool true] 4)).cell? (q.add j) = some (.bool b) := by
  intro j b hj
  have e : (⟨W.heap.size, 0, none⟩ : Addr).add j = ⟨W.heap.size, j, none⟩ := by unfold Addr.add; split <;> simp_all
  refine ⟨_, rfl, ?_⟩
  rw [e]
  refine ⟨by simp, fun h => Nat.lt_irrefl _ (hF _ h), ?_⟩
  rw [cell_of_row _ W.heap.size j #[Value.bool false, Value.bool true] 4 (0, 0) (heap_alloc_at _ _ rfl)]
  match j, hj with
  | 0, hj => cases hj; rfl
  | 1, hj => cases hj; rfl
@[go_sem ↓] theorem bdk33 (a : Act) (dst : Option Tmp) (ps : Array (Nat × Operand)) (ty : TypeId) (pos : String) (after : Array Edge) (guard : Option (Nat × Bool)) :
    execOp a.eval { dst, op := .build 33 ps, type := ty, pos, after, guard } = buildK 33 (ps.map fun (i, x) => (i, a.eval x)) := rfl
set_option maxRecDepth 20000 in
set_option maxHeartbeats 1000000 in
theorem disks_ok (w : World) : Calls Try.prog 14 #[] w fun x w' => x = .returned (.bool true) ∧ Below w.heap.size w w' := by
  have HN : ∀ W, Calls Try.prog 13 #[.int .i64 2] W fun x w' => ∃ p, x = .returned (.tuple #[.pointer (some ⟨p, 0, none⟩), .int .i64 0]) ∧ W.heap.size ≤ p ∧ DiskIn w' p (fun g => W.heap.size ≤ g) T0 ∧ Below W.heap.size W w' := fun W => new_ok (n := 2) (by decide) (by decide) W
  have HNh := hid HN
  clear HN
  have B1 := fun W => run_buildK (build33_1 W)
  have B2 := fun W => run_buildK (build33_2 W)
  have B3 := fun W => run_buildK (build33_3 W)
  go_enter Try.func14, Try.ntmps14
  go_wp2_with (go_at_call 13; refine (HNh.out _).mono ?_; rintro x w1 ⟨p, rfl, hp, hd, hb⟩; have D1 := hid hd; have hB1 := hid hb; have s1 := hb.size; clear hd hb)
  with_reducible refine (write_any D1.out T0_ok (by decide) 0 (oneB_len 1)).mono ?_
  rintro x w2 ⟨hx, hd, ht⟩
  replace hx : x = .returned (.int .i64 0) := hx
  subst hx
  have D2 := hid (DiskIn.mono (G := fun g => w.heap.size ≤ g) (show DiskIn w2 p _ T1 from hd) (fun g _ hf => hf.elim id (fun h => Nat.le_trans s1 h)))
  have s2 := Nat.le_trans s1 ht.size
  have H2 := hid ht
  clear hd ht
  go_wp2_with (go_at_call 16; refine (sync_ok D2.out T1_ok (by decide)).mono ?_; rintro x w3 ⟨hx, hd, ht⟩; replace hx : x = .returned (.int .i64 0) := hx; subst hx; have D3 := hid (show DiskIn w3 p _ T2 from hd); have H3 := hid ht; have s3 := Nat.le_trans s2 ht.size; clear hd ht)
  with_reducible refine (write_any D3.out T2_ok (by decide) 0 (oneB_len 2)).mono ?_
  rintro x w4 ⟨hx, hd, ht⟩
  replace hx : x = .returned (.int .i64 0) := hx
  subst hx
  have D4 := hid (DiskIn.mono (G := fun g => w.heap.size ≤ g) (show DiskIn w4 p _ T3 from hd) (fun g _ hf => hf.elim id (fun h => Nat.le_trans s3 h)))
  have s4 := Nat.le_trans s3 ht.size
  have H4 := hid ht
  clear hd ht
  go_wp2_with fail
  with_reducible refine (write_any D4.out T3_ok (by decide) 1 (oneB_len 3)).mono ?_
  rintro x w5 ⟨hx, hd, ht⟩
  replace hx : x = .returned (.int .i64 0) := hx
  subst hx
  have D5 := hid (DiskIn.mono (G := fun g => w.heap.size ≤ g) (show DiskIn w5 p _ T4 from hd) (fun g _ hf => hf.elim id (fun h => Nat.le_trans s4 h)))
  have s5 := Nat.le_trans s4 ht.size
  have H5 := hid ht
  clear hd ht
  go_wp2_with fail
  have D5' := hid ((D5.out.mono (G := fun g => w.heap.size ≤ g ∧ g < w5.heap.size) (fun g hg hf => ⟨hf, hg⟩)).below ((Below.refl _ _).alloc (Nat.le_refl _) (Obj.cells #[Value.bool false, Value.bool true] 4)))
  have HC := crash_any (keep := [false, true]) (c := 2) D5'.out T4_ok (by decide) (by decide) (keep_row w5 (fun g => w.heap.size ≤ g ∧ g < w5.heap.size) (fun g h => h.2))
  change Calls Try.prog 17 #[.pointer (some ⟨p, 0, none⟩), .slice (some ⟨w5.heap.size, 0, none⟩) 2 2] _ _ at HC
  with_reducible refine HC.mono ?_
  clear HC
  rintro x w6 ⟨rfl, hd, ht⟩
  have D6 := hid (show DiskIn w6 p _ T5 from hd)
  have s6 := Nat.le_trans s5 (Nat.le_trans ((Below.refl w5.heap.size w5).alloc (Nat.le_refl _) (Obj.cells #[Value.bool false, Value.bool true] 4)).size ht.size)
  have H6 := hid (((Tch.of_below (F := fun g => w.heap.size ≤ g) ((Below.refl w5.heap.size w5).alloc (Nat.le_refl _) (Obj.cells #[Value.bool false, Value.bool true] 4)))).trans ht (fun _ h => h) (fun _ _ h => h.1))
  clear hd ht
  go_wp2_with fail
  with_reducible refine (read_any D6.out T5_ok 0).mono ?_
  rintro x w7 ⟨hx, hb7⟩
  replace hx : x = .returned (.tuple #[.agg (bv (oneB 1)), .int .i64 0]) := hx
  subst hx
  have D7 := hid (D6.out.below hb7)
  have HB7 := hid hb7
  have s7 := Nat.le_trans s6 hb7.size
  have HS1 := hid ((bv_size (oneB 1)).trans (oneB_len 1))
  have HS3 := hid ((bv_size (oneB 3)).trans (oneB_len 3))
  clear hb7
  go_wp2_with (first | (refine wpList_alloc 33 rfl rfl (.agg (bv zeroB)) zero33 ?_; intro g5 X1 hg5 hl5 hge5 hX1) | (refine wpList_store_box 33 _ _ rfl g5 rfl rfl (bv (oneB 1)) rfl 128 size33 HS1.out (bv_one _) 33 _ hg5 bvz ?_; intro X2 hR2 hT2 hs2))
  have hb8 := hX1.trans (hT2.below hX1.size (fun i hi => by subst hi; exact hge5))
  have D8 := hid (D7.out.below hb8)
  have HB8 := hid hb8
  have s8 := Nat.le_trans s7 hb8.size
  have HR5 := hid hR2
  have hg5l := lt_of_heap hR2
  clear hb8 hX1 hT2 hR2 hg5 hs2 hl5
  with_reducible refine (read_any D8.out T5_ok 1).mono ?_
  rintro x w8 ⟨hx, hb9⟩
  replace hx : x = .returned (.tuple #[.agg (bv (oneB 3)), .int .i64 0]) := hx
  subst hx
  have HR6 := hid ((hb9.block g5 hg5l).trans HR5.out)
  have HB9 := hid hb9
  have s9 := Nat.le_trans s8 hb9.size
  have hg5w := lt_of_heap HR6.out
  clear hb9
  go_wp2_with (first | (refine wpList_alloc 33 rfl rfl (.agg (bv zeroB)) zero33 ?_; intro g7 X3 hg7 hl7 hge7 hX3) | (refine wpList_store_box 33 _ _ rfl g7 rfl rfl (bv (oneB 3)) rfl 128 size33 HS3.out (bv_one _) 33 _ hg7 bvz ?_; intro X4 hR4 hT4 hs4; have c7 : X4.cell? ⟨g7, 0, none⟩ = some (.int .u8 3) := (cell_of_row X4 g7 0 _ _ _ hR4).trans rfl; have c5 : X4.cell? ⟨g5, 0, none⟩ = some (.int .u8 1) := (cell_of_row X4 g5 0 _ _ _ (((hX3.trans (hT4.below hX3.size (fun i hi => by subst hi; exact hge7))).block g5 hg5w).trans HR6.out)).trans rfl))
  go_ret
  refine ⟨rfl, ?_⟩
  have B1' := (hB1.out.trans (H2.out.below s1 (fun _ h => h)))
  have B2' := ((B1'.trans (H3.out.below s2 (fun _ h => h))).trans (H4.out.below s3 (fun _ h => h))).trans (H5.out.below s4 (fun _ h => h))
  have B3' := ((B2'.trans (H6.out.below s5 (fun _ h => h))).trans (HB7.out.mono s6)).trans (HB8.out.mono s7)
  exact (B3'.trans (HB9.out.mono s8)).trans ((hX3.trans (hT4.below hX3.size (fun i hi => by subst hi; exact hge7))).mono s9)
end Go.Proofs.Ythmchbdhikakhaa
