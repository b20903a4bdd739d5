/- DiskJobs: the walk. -/
import Derived.Test.YthmchbdhikakhaaDiskRefNew
import Derived.Test.YthmchbdhikakhaaDiskStory
namespace Go.Proofs.Ythmchbdhikakhaa
open Go.RowKit Go.Cu
structure JobD where
  what : Int
  at_ : Int
  by_ : UInt8
  keep : List Bool
/-- A row of jobs lies in memory. -/
def JobsIn (W : World) (A : Option Addr) (row : List JobD) : Prop := ∀ i j, row[i]? = some j → ∃ g o Ak ck, A = some ⟨g, o, none⟩ ∧ g < W.heap.size ∧ KeepIn W Ak j.keep ∧ j.keep.length ≤ 9223372036854775807 ∧
  -9223372036854775808 ≤ j.what ∧ j.what ≤ 9223372036854775807 ∧ -9223372036854775808 ≤ j.at_ ∧ j.at_ ≤ 9223372036854775807 ∧
  W.cell? ⟨g, o + i * 4, none⟩ = some (.int .i64 j.what) ∧ W.cell? ⟨g, o + i * 4 + 1, none⟩ = some (.int .i64 j.at_) ∧ W.cell? ⟨g, o + i * 4 + 2, none⟩ = some (.int .u8 j.by_.toNat) ∧ W.cell? ⟨g, o + i * 4 + 3, none⟩ = some (.slice Ak j.keep.length ck)
theorem u64_rem (n : Int) (d : Nat) (hd : 0 < d) : ∃ m : Nat, (IntKind.u64.wrap n).tmod d = m ∧ m < d := by
  have h0 : 0 ≤ IntKind.u64.wrap n := by simp [IntKind.wrap, IntKind.signed, IntKind.bits]; omega
  rw [Int.tmod_eq_emod_of_nonneg h0]
  have h1 := Int.emod_nonneg (IntKind.u64.wrap n) (show (d : Int) ≠ 0 by omega)
  have h2 := Int.emod_lt_of_pos (IntKind.u64.wrap n) (show (0 : Int) < d by omega)
  exact ⟨(IntKind.u64.wrap n % d).toNat, by omega, by omega⟩
section
variable {W0 W : World} {L : List Atm}
theorem new_sti (h : St W0 L W) {m : Int} {n : Nat} (e : m = n) (h1 : 1 ≤ n) (h2 : n ≤ 8192) : Calls Try.prog 13 #[.int .i64 m] W fun x W' => ∃ p, x = .returned (.tuple #[.pointer (some ⟨p, 0, none⟩), .int .i64 0]) ∧ St W0 (Disk p (DS.new n) :: L) W' := by
  subst e; exact new_st h h1 h2
theorem rnew_sti (h : St W0 L W) {m : Int} {n : Nat} (e : m = n) (h2 : n ≤ 8192) : Calls Try.prog 19 #[.int .i64 m] W fun x W' => ∃ p, x = .returned (.pointer (some ⟨p, 0, none⟩)) ∧ St W0 (Ref p (DS.new n) :: L) W' := by
  subst e; exact rnew_st h h2
theorem disks_st (h : St W0 L W) : Calls Try.prog 14 #[] W fun x W' => x = .returned (.bool true) ∧ St W0 L W' :=
  (disks_ok W).mono fun _ _ ⟨hx, hb⟩ => ⟨hx, h.turn hb⟩
end
theorem size37 : (Try.prog.info? 37).map (·.size) = some 4 := by kernel_rfl
def zero37v : Value := .agg #[.int .i64 0, .int .i64 0, .int .u8 0, .slice none 0 0]
theorem zero37 (W : World) : (zeroValue 37).run Try.prog W = .ok zero37v W := by kernel_rfl
/-- A job's block. -/
def jobV (j : JobD) (Ak : Option Addr) (ck : Nat) : Array Value := #[.int .i64 j.what, .int .i64 j.at_, .int .u8 j.by_.toNat, .slice Ak j.keep.length ck]
theorem jobV_one (j : JobD) (Ak : Option Addr) (ck : Nat) : ∀ u ∈ (jobV j Ak ck).toList, u.oneCell' = true := by
  intro u hu
  simp only [jobV, List.mem_cons, List.not_mem_nil, or_false] at hu
  rcases hu with rfl | rfl | rfl | rfl <;> rfl
/-- What is written: a byte, and the round's number at the end. -/
def twoB (b : UInt8) (k : Nat) : Bk := b :: List.replicate 126 0 ++ [UInt8.ofNat k]
theorem twoB_len (b : UInt8) (k : Nat) : (twoB b k).length = 128 := by simp [twoB]
set_option maxRecDepth 20000 in
theorem build33_two (b : UInt8) (k : Nat) (W : World) : (Instr.build 33 #[(0, .int .u8 b.toNat), (127, .int .u8 (UInt8.ofNat k).toNat)]).run Try.prog W = .ok (.agg (bv (twoB b k))) W := by
  kernel_rfl
theorem u8_k {k : Nat} (h : k < 256) : ((UInt8.ofNat k).toNat : Int) = (k : Int) := by
  rw [UInt8.toNat_ofNat', Nat.mod_eq_of_lt h]
/-- What is read at a place. -/
def _root_.Go.Cu.DS.rd (S : DS) (i : Int) : Bk := if S.at_ i = 0 then S.now.getD i.toNat zeroB else zeroB
theorem rd_len {S : DS} {N : Nat} (h : S.Ok N) (i : Int) : (S.rd i).length = 128 := by
  unfold DS.rd
  split
  · exact full_getD h.now _
  · exact zeroB_len
theorem write_len (S : DS) (i : Int) (b : Bk) : (S.write i b).1.now.length = S.now.length := by
  unfold DS.write
  split
  · rfl
  · unfold DS.tick
    split
    · simp [DS.put]
    · split <;> simp [DS.put]
theorem settle_len (S : DS) (kept : Nat → Bool) : (S.settle kept).now.length = S.now.length := nowOf_len _ _ _
theorem sync_len (S : DS) : S.sync.1.now.length = S.now.length := by
  unfold DS.sync
  split
  · rfl
  · exact settle_len _ _
theorem crash_len (S : DS) (keep : List Bool) : (S.crash keep).now.length = S.now.length := settle_len _ _
section
variable {W0 W : World} {L : List Atm} {p q : Nat} {S : DS}
theorem read_rd {N : Nat} (h : St W0 (Disk p S :: L) W) (hok : S.Ok N) (i : Int) :
    Calls Try.prog 18 #[.pointer (some ⟨p, 0, none⟩), .int .i64 i] W fun x W' => x = .returned (.tuple #[.agg (bv (S.rd i)), .int .i64 (S.at_ i)]) ∧ St W0 (Disk p S :: L) W' :=
  (read_st h hok i).mono fun _ _ hx => ⟨hx.1, hx.2.1⟩
theorem rread_rd {N : Nat} (h : St W0 (Ref p S :: L) W) (hok : S.Ok N) (htd : S.Tied) (hN : N ≤ 1000000) (i : Int) :
    Calls Try.prog 20 #[.pointer (some ⟨p, 0, none⟩), .int .i64 i] W fun x W' => x = .returned (.tuple #[.agg (bv (S.rd i)), .int .i64 (S.at_ i)]) ∧ St W0 (Ref p S :: L) W' :=
  (rread_st h hok htd hN i).mono fun _ _ hx => ⟨hx.1, hx.2.1⟩
theorem ref_cells (h : St W0 (Ref q S :: L) W) : ∃ (_ : Nat) (A : Option Addr) (c : Nat), W.cell? ⟨q, 1, none⟩ = some (.slice A S.wait.length c) ∧ W.cell? ⟨q, 2, none⟩ = some (.int .i64 S.writes) ∧ W.cell? ⟨q, 3, none⟩ = some (.int .i64 S.armed) ∧
    W.cell? ⟨q, 4, none⟩ = some (.bool S.off) ∧ W.frozen? ⟨q, 3, none⟩ = false := by
  obtain ⟨F, ⟨pl, wv, h⟩, _, _⟩ := h.first
  obtain ⟨A, c, rfl⟩ := own_slice h.wait
  exact ⟨pl, A, c, (cell_of_row W q 1 _ _ _ h.box).trans rfl, (cell_of_row W q 2 _ _ _ h.box).trans rfl, (cell_of_row W q 3 _ _ _ h.box).trans rfl, (cell_of_row W q 4 _ _ _ h.box).trans rfl, frozen_of_row W q 3 _ _ h.box⟩
theorem ref_arm (h : St W0 (Ref q S :: L) W) (n : Int) : St W0 (Ref q (S.arm n) :: L) (W.setCell ⟨q, 3, none⟩ (.int .i64 (max n 0))) := by
  obtain ⟨F, ⟨pl, wv, h⟩, _, hr⟩ := h.first
  have ht := (Tch.refl (· = q) W).setCell (g := q) (i := 3) rfl (.int .i64 (max n 0))
  refine hr _ _ ⟨pl, wv, .inl h.op, .inl h.ol, fun g hg => .inl (h.ow g hg), ?_, ?_, ?_⟩ (ht.mono fun i _ e => by subst e; exact h.op)
  · exact (heap_setCell_same W q 3 _ 51 (.int .i64 (max n 0)) h.box).trans rfl
  · exact (ht.block pl (lt_of_heap h.last) (heap_ne h.last h.box (by decide))).trans h.last
  · exact own_keep h.wait fun g hg => ht.block g (own_lt h.wait hg) (fun e => own_ne h.wait h.box (by decide) (by rw [hg]; exact congrArg some e))
theorem _root_.Go.Cu.St.firsts {a b : Atm} (h : St W0 (a :: b :: L) W) : St W0 [a, b] W := ⟨h.below, let ⟨G, ha, G', hb, _⟩ := h.star; ⟨G, ha, G', hb, trivial⟩⟩
theorem blk_cell {g : Nat} {cs : Array Value} {t : TypeId} (h : St W0 (Blk g cs t :: L) W) (i : Nat) : W.cell? ⟨g, i, none⟩ = cs[i]? := cell_of_row W g i _ _ _ h.blk
end
set_option maxRecDepth 20000 in
set_option maxHeartbeats 8000000 in
theorem jobs_walk {n : Int} {row : List JobD} {A : Option Addr} {c : Nat} (w : World) (hr : JobsIn w A row) :
    Calls Try.prog 4 #[.int .i64 n, .slice A row.length c] w fun x w' => x = .returned (.bool true) ∧ Below w.heap.size w w' := by
  have HR := hid hr
  obtain ⟨m, em, hm⟩ := u64_rem n 6 (by decide)
  simp only [Int.cast_ofNat_Int] at em
  clear hr
  go_enter Try.func4, Try.ntmps4
  go_wp2_with (first | (go_at_call 13; (with_reducible refine (new_sti (St.start w) (n := m + 1) (by omega) (by omega) (by omega)).mono ?_); rintro x w1 ⟨p, rfl, hs1⟩) | (go_at_call 19; (with_reducible refine (rnew_sti hs1 (n := m + 1) (by omega) (by omega)).mono ?_); rintro x w2 ⟨q, rfl, hs2⟩) | (go_at_call 14; (with_reducible refine (disks_st hs2).mono ?_); rintro x w3 ⟨rfl, hs3⟩))
  have HS := hid hs3.at2
  clear hs1 hs2 hs3 em
  go_loopw [8] (fun i X => ∃ k : Nat, k ≤ 60 ∧ i = .int .i64 k ∧ ∃ S : DS, Hid (S.Ok k) ∧ Hid S.Tied ∧ Hid (S.now.length = m + 1) ∧ Hid (St w [Disk p S, Ref q S] X)) (fun i _ => 60 - (intOf i).toNat)
  case atStart => exact ⟨0, by omega, rfl, DS.new (m + 1), hid (DS.Ok.new (by omega)), hid (DS.Tied.new _), hid (by simp [DS.new]), HS⟩
  case round =>
    clear HS
    obtain ⟨k, hk, rfl, S, HOK, HTD, HLN, HS⟩ := hrel
    by_cases hlt : (k : Int) < (row.length : Int) ∧ k < 60
    · obtain ⟨hlt, hk6⟩ := hlt
      obtain ⟨j, hj⟩ : ∃ j, row[k]? = some j := ⟨_, List.getElem?_eq_getElem (by omega)⟩
      obtain ⟨ga, oa, Ak, ck, rfl, hab, hkeep, hkl, b1, b2, b3, b4, c0, c1, c2, c3⟩ := HR.out k j hj
      have d0 := (HS.out.below.cell (p := ⟨ga, oa + k * 4, none⟩) hab).trans c0
      have d1 := (HS.out.below.cell (p := ⟨ga, oa + k * 4 + 1, none⟩) hab).trans c1
      have d2 := (HS.out.below.cell (p := ⟨ga, oa + k * 4 + 2, none⟩) hab).trans c2
      have d3 := (HS.out.below.cell (p := ⟨ga, oa + k * 4 + 3, none⟩) hab).trans c3
      have HK := hid hkeep
      obtain ⟨r, er, hr6⟩ := u64_rem j.what 6 (by decide)
      simp only [Int.cast_ofNat_Int] at er
      have hk60 : (k : Int) < 60 := by omega
      clear c0 c1 c2 c3 hkeep hj hab
      match r, hr6 with
      | 0, _ =>
        go_wp2_with (first | (refine wpList_alloc 37 rfl rfl zero37v zero37 ?_; intro gj W1 hJ hjl hjg hW1) | (refine wpList_store_box 37 _ _ rfl gj rfl rfl (jobV j Ak ck) rfl 4 size37 rfl (jobV_one j Ak ck) 37 _ hJ rfl ?_; intro W2 hJ2 hT2 hs2; have e0 : W2.cell? ⟨gj, 0, none⟩ = some (.int .i64 j.what) := (cell_of_row W2 gj 0 _ _ _ hJ2).trans rfl; have H2 := hid ((HS.out.newBlk hW1 hjg hJ).put hJ2 hT2).back3))
        obtain ⟨S', HOK', HTD', HLN', HT⟩ : ∃ S' : DS, Hid (S'.Ok (k + 1)) ∧ Hid S'.Tied ∧ Hid (S'.now.length = m + 1) ∧ Hid (∃ L, St w (Disk p S' :: Ref q S' :: L) W2) := ⟨S, hid (HOK.out.mono (by omega)), hid HTD.out, hid HLN.out, hid ⟨_, H2.out⟩⟩
        obtain ⟨LL, T0⟩ := HT.out
        obtain ⟨_, AT, cT, r1, r2, _, r4, _⟩ := ref_cells T0.at2
        have HT1 := hid (T0.turn (Below.drew (Below.refl _ _)))
        clear T0
        refine wp_region_ord [] [(0, 1), (2, 1), (3, 1), (4, 1), (5, 1), (1, 2), (6, 1), (7, 1), (8, 1), (10, 1), (11, 1), (12, 1), (13, 1), (9, 2), (14, 1), (15, 1), (16, 1), (17, 1), (19, 1), (20, 1), (21, 1), (22, 1), (23, 1), (18, 2), (24, 1), (25, 1)] (fun X => X = World.drew W2) (by kernel_rfl) (by kernel_rfl) (fun d _ c _ _ h => by cases d <;> exact h) rfl (fun X hXe _ => ?_)
        subst hXe
        repeat (apply wpOrd_class; ((· first | (rw [List.getElem?_toArray, List.getElem?_cons_zero]; done) | (simp only [List.getElem?_toArray, List.getElem?_cons_succ, List.getElem?_cons_zero]; exact rfl))); (· exact rfl); intro K hK; apply Exists.intro; refine And.intro (fun X' hX' => ?_) ?_; (· go_simp; (try go_bits); first | done | exact rfl | exact ⟨rfl, rfl⟩); go_simp; refine hK _ _ ?_; clear hK K)
        (apply wpOrd_comes; ((· first | (rw [List.getElem?_toArray, List.getElem?_cons_zero]; done) | (simp only [List.getElem?_toArray, List.getElem?_cons_succ, List.getElem?_cons_zero]; exact rfl))); intro N hN)
        go_wp2_with (go_at_call 25; (with_reducible refine (down_st HT1.out).mono ?_); rintro x w' ⟨rfl, rfl⟩)
        refine hN _ _ (fun _ => rfl) ?_
        clear hN N
        repeat (apply wpOrd_class; ((· first | (rw [List.getElem?_toArray, List.getElem?_cons_zero]; done) | (simp only [List.getElem?_toArray, List.getElem?_cons_succ, List.getElem?_cons_zero]; exact rfl))); (· exact rfl); intro K hK; apply Exists.intro; refine And.intro (fun X' hX' => ?_) ?_; (· go_simp; (try go_bits); first | done | exact rfl | exact ⟨rfl, rfl⟩); go_simp; refine hK _ _ ?_; clear hK K)
        (apply wpOrd_comes; ((· first | (rw [List.getElem?_toArray, List.getElem?_cons_zero]; done) | (simp only [List.getElem?_toArray, List.getElem?_cons_succ, List.getElem?_cons_zero]; exact rfl))); intro N hN)
        go_wp2_with (go_at_call 26; (with_reducible refine (writes_st HT1.out).mono ?_); rintro x w' ⟨rfl, rfl⟩)
        refine hN _ _ (fun _ => rfl) ?_
        clear hN N
        repeat (apply wpOrd_class; ((· first | (rw [List.getElem?_toArray, List.getElem?_cons_zero]; done) | (simp only [List.getElem?_toArray, List.getElem?_cons_succ, List.getElem?_cons_zero]; exact rfl))); (· exact rfl); intro K hK; apply Exists.intro; refine And.intro (fun X' hX' => ?_) ?_; (· go_simp; (try go_bits); first | done | exact rfl | exact ⟨rfl, rfl⟩); go_simp; refine hK _ _ ?_; clear hK K)
        (apply wpOrd_comes; ((· first | (rw [List.getElem?_toArray, List.getElem?_cons_zero]; done) | (simp only [List.getElem?_toArray, List.getElem?_cons_succ, List.getElem?_cons_zero]; exact rfl))); intro N hN)
        go_wp2_with (go_at_call 27; (with_reducible refine (waiting_st HT1.out).mono ?_); rintro x w' ⟨rfl, rfl⟩)
        refine hN _ _ (fun _ => rfl) ?_
        clear hN N
        repeat (apply wpOrd_class; ((· first | (rw [List.getElem?_toArray, List.getElem?_cons_zero]; done) | (simp only [List.getElem?_toArray, List.getElem?_cons_succ, List.getElem?_cons_zero]; exact rfl))); (· exact rfl); intro K hK; apply Exists.intro; refine And.intro (fun X' hX' => ?_) ?_; (· go_simp; (try go_bits); first | done | exact rfl | exact ⟨rfl, rfl⟩); go_simp; refine hK _ _ ?_; clear hK K)
        refine wpOrd_done ?_
        clear r1 r2 r4
        go_wp2
        go_roundw
        case rel => exact ⟨k + 1, by omega, by go_num, S', HOK', HTD', HLN', hid (HT1.out.firsts)⟩
        case measure => simp [intOf]; omega
      | 1, _ =>
        have HRL := hid (rd_len HOK.out j.at_)
        have HRZ := hid ((bv_size _).trans HRL.out)
        have CM := fun (x y : Operand) (W : World) => run_cmpK_neq (P := Try.prog) guard32 Try.underlying32 be5 cells5 HRL.out HRL.out x y W
        simp only [decide_true, Bool.not_true] at CM
        go_wp2_with (first | (refine wpList_alloc 37 rfl rfl zero37v zero37 ?_; intro gj W1 hJ hjl hjg hW1) | (refine wpList_store_box 37 _ _ rfl gj rfl rfl (jobV j Ak ck) rfl 4 size37 rfl (jobV_one j Ak ck) 37 _ hJ rfl ?_; intro W2 hJ2 hT2 hs2; have e0 : W2.cell? ⟨gj, 0, none⟩ = some (.int .i64 j.what) := (cell_of_row W2 gj 0 _ _ _ hJ2).trans rfl; have e1 : W2.cell? ⟨gj, 1, none⟩ = some (.int .i64 j.at_) := (cell_of_row W2 gj 1 _ _ _ hJ2).trans rfl; have H2 := hid ((HS.out.newBlk hW1 hjg hJ).put hJ2 hT2).back3) | (go_at_call 18; (with_reducible refine (read_rd H2.out HOK.out _).mono ?_); rintro x W3 ⟨rfl, hS3⟩; have H3 := hid hS3; clear hS3) | (refine wpList_alloc 33 rfl rfl (.agg (bv zeroB)) zero33 ?_; intro gA W4 hA hal hag hW4) | (refine wpList_store_box 33 _ _ rfl gA rfl rfl (bv (S.rd j.at_)) rfl 128 size33 HRZ.out (bv_one _) 33 _ hA bvz ?_; intro W5 hA5 hT5 hs5; have H5 := hid ((H3.out.newBlk hW4 hag hA).put hA5 hT5).back3; have g1 : W5.cell? ⟨gj, 1, none⟩ = some (.int .i64 j.at_) := (blk_cell H5.out.at4 1).trans rfl) | (go_at_call 20; (with_reducible refine (rread_rd H5.out.at2 HOK.out HTD.out (by omega) _).mono ?_); rintro x W6 ⟨rfl, hS6⟩; have H6 := hid hS6; clear hS6) | (refine wpList_alloc 32 rfl rfl (.agg (bv zeroB)) zero32 ?_; intro gB W7 hB hbl hbg hW7) | (refine wpList_store_box 32 _ _ rfl gB rfl rfl (bv (S.rd j.at_)) rfl 128 size32 HRZ.out (bv_one _) 32 _ hB bvz ?_; intro W8 hB8 hT8 hs8; have H8 := hid ((H6.out.newBlk hW7 hbg hB).put hB8 hT8).back3.at2; have LA : (loadK 33 (.pointer (some ⟨gA, 0, none⟩))).run Try.prog W8 = .ok (.value (.agg (bv (S.rd j.at_)))) W8 := run_loadK_box H8.out.at4.blk Try.underlying33 rfl size33 HRZ.out; have LB : (loadK 32 (.pointer (some ⟨gB, 0, none⟩))).run Try.prog W8 = .ok (.value (.agg (bv (S.rd j.at_)))) W8 := run_loadK_box hB8 Try.underlying32 rfl size32 HRZ.out))
        clear LA LB CM hB8 g1
        obtain ⟨S', HOK', HTD', HLN', HT⟩ : ∃ S' : DS, Hid (S'.Ok (k + 1)) ∧ Hid S'.Tied ∧ Hid (S'.now.length = m + 1) ∧ Hid (∃ L, St w (Disk p S' :: Ref q S' :: L) W8) := ⟨S, hid (HOK.out.mono (by omega)), hid HTD.out, hid HLN.out, hid ⟨_, H8.out⟩⟩
        obtain ⟨LL, T0⟩ := HT.out
        obtain ⟨_, AT, cT, r1, r2, _, r4, _⟩ := ref_cells T0.at2
        have HT1 := hid (T0.turn (Below.drew (Below.refl _ _)))
        clear T0
        refine wp_region_ord [] [(0, 1), (2, 1), (3, 1), (4, 1), (5, 1), (1, 2), (6, 1), (7, 1), (8, 1), (10, 1), (11, 1), (12, 1), (13, 1), (9, 2), (14, 1), (15, 1), (16, 1), (17, 1), (19, 1), (20, 1), (21, 1), (22, 1), (23, 1), (18, 2), (24, 1), (25, 1)] (fun X => X = World.drew W8) (by kernel_rfl) (by kernel_rfl) (fun d _ c _ _ h => by cases d <;> exact h) rfl (fun X hXe _ => ?_)
        subst hXe
        repeat (apply wpOrd_class; ((· first | (rw [List.getElem?_toArray, List.getElem?_cons_zero]; done) | (simp only [List.getElem?_toArray, List.getElem?_cons_succ, List.getElem?_cons_zero]; exact rfl))); (· exact rfl); intro K hK; apply Exists.intro; refine And.intro (fun X' hX' => ?_) ?_; (· go_simp; (try go_bits); first | done | exact rfl | exact ⟨rfl, rfl⟩); go_simp; refine hK _ _ ?_; clear hK K)
        (apply wpOrd_comes; ((· first | (rw [List.getElem?_toArray, List.getElem?_cons_zero]; done) | (simp only [List.getElem?_toArray, List.getElem?_cons_succ, List.getElem?_cons_zero]; exact rfl))); intro N hN)
        go_wp2_with (go_at_call 25; (with_reducible refine (down_st HT1.out).mono ?_); rintro x w' ⟨rfl, rfl⟩)
        refine hN _ _ (fun _ => rfl) ?_
        clear hN N
        repeat (apply wpOrd_class; ((· first | (rw [List.getElem?_toArray, List.getElem?_cons_zero]; done) | (simp only [List.getElem?_toArray, List.getElem?_cons_succ, List.getElem?_cons_zero]; exact rfl))); (· exact rfl); intro K hK; apply Exists.intro; refine And.intro (fun X' hX' => ?_) ?_; (· go_simp; (try go_bits); first | done | exact rfl | exact ⟨rfl, rfl⟩); go_simp; refine hK _ _ ?_; clear hK K)
        (apply wpOrd_comes; ((· first | (rw [List.getElem?_toArray, List.getElem?_cons_zero]; done) | (simp only [List.getElem?_toArray, List.getElem?_cons_succ, List.getElem?_cons_zero]; exact rfl))); intro N hN)
        go_wp2_with (go_at_call 26; (with_reducible refine (writes_st HT1.out).mono ?_); rintro x w' ⟨rfl, rfl⟩)
        refine hN _ _ (fun _ => rfl) ?_
        clear hN N
        repeat (apply wpOrd_class; ((· first | (rw [List.getElem?_toArray, List.getElem?_cons_zero]; done) | (simp only [List.getElem?_toArray, List.getElem?_cons_succ, List.getElem?_cons_zero]; exact rfl))); (· exact rfl); intro K hK; apply Exists.intro; refine And.intro (fun X' hX' => ?_) ?_; (· go_simp; (try go_bits); first | done | exact rfl | exact ⟨rfl, rfl⟩); go_simp; refine hK _ _ ?_; clear hK K)
        (apply wpOrd_comes; ((· first | (rw [List.getElem?_toArray, List.getElem?_cons_zero]; done) | (simp only [List.getElem?_toArray, List.getElem?_cons_succ, List.getElem?_cons_zero]; exact rfl))); intro N hN)
        go_wp2_with (go_at_call 27; (with_reducible refine (waiting_st HT1.out).mono ?_); rintro x w' ⟨rfl, rfl⟩)
        refine hN _ _ (fun _ => rfl) ?_
        clear hN N
        repeat (apply wpOrd_class; ((· first | (rw [List.getElem?_toArray, List.getElem?_cons_zero]; done) | (simp only [List.getElem?_toArray, List.getElem?_cons_succ, List.getElem?_cons_zero]; exact rfl))); (· exact rfl); intro K hK; apply Exists.intro; refine And.intro (fun X' hX' => ?_) ?_; (· go_simp; (try go_bits); first | done | exact rfl | exact ⟨rfl, rfl⟩); go_simp; refine hK _ _ ?_; clear hK K)
        refine wpOrd_done ?_
        clear r1 r2 r4
        go_wp2
        go_roundw
        case rel => exact ⟨k + 1, by omega, by go_num, S', HOK', HTD', HLN', hid (HT1.out.firsts)⟩
        case measure => simp [intOf]; omega
      | 2, _ =>
        have HRZ := hid ((bv_size _).trans (twoB_len j.by_ k))
        have BB := fun W => run_buildK (build33_two j.by_ k W)
        rw [u8_k (show k < 256 by omega)] at BB
        go_wp2_with (first | (refine wpList_alloc 37 rfl rfl zero37v zero37 ?_; intro gj W1 hJ hjl hjg hW1) | (refine wpList_store_box 37 _ _ rfl gj rfl rfl (jobV j Ak ck) rfl 4 size37 rfl (jobV_one j Ak ck) 37 _ hJ rfl ?_; intro W2 hJ2 hT2 hs2; have e0 : W2.cell? ⟨gj, 0, none⟩ = some (.int .i64 j.what) := (cell_of_row W2 gj 0 _ _ _ hJ2).trans rfl; have e1 : W2.cell? ⟨gj, 1, none⟩ = some (.int .i64 j.at_) := (cell_of_row W2 gj 1 _ _ _ hJ2).trans rfl; have e2 : W2.cell? ⟨gj, 2, none⟩ = some (.int .u8 j.by_.toNat) := (cell_of_row W2 gj 2 _ _ _ hJ2).trans rfl; have H2 := hid ((HS.out.newBlk hW1 hjg hJ).put hJ2 hT2).back3) | (refine wpList_alloc 33 rfl rfl (.agg (bv zeroB)) zero33 ?_; intro gA W4 hA hal hag hW4) | (refine wpList_store_box 33 _ _ rfl gA rfl rfl (bv (twoB j.by_ k)) rfl 128 size33 HRZ.out (bv_one _) 33 _ hA bvz ?_; intro W5 hA5 hT5 hs5; have H5 := hid ((H2.out.newBlk hW4 hag hA).put hA5 hT5).back3))
        clear BB
        have H5' := hid (H5.out.turn (Below.drew (Below.refl _ _)))
        refine wp_region_ord [] [(0, 1), (1, 1), (2, 1), (3, 1), (5, 1), (6, 1), (7, 1), (8, 1), (4, 2), (9, 2), (10, 1)] (fun X => X.cell? ⟨gj, 1, none⟩ = some (.int .i64 j.at_) ∧ (loadK 33 (.pointer (some ⟨gA, 0, none⟩))).run Try.prog X = .ok (.value (.agg (bv (twoB j.by_ k)))) X) (by kernel_rfl) (by kernel_rfl) (fun d _ c _ _ h => by cases d <;> exact h) ⟨(blk_cell H5'.out.at4 1).trans rfl, run_loadK_box H5'.out.at3.blk Try.underlying33 rfl size33 HRZ.out⟩ (fun X hXe _ => ?_)
        subst hXe
        repeat (apply wpOrd_class; ((· first | (rw [List.getElem?_toArray, List.getElem?_cons_zero]; done) | (simp only [List.getElem?_toArray, List.getElem?_cons_succ, List.getElem?_cons_zero]; exact rfl))); (· exact rfl); intro K hK; apply Exists.intro; refine And.intro (fun X' hX' => ?_) ?_; (· have hX1 := hX'.1; have hX2 := hX'.2; clear hX'; go_simp; (try go_bits); first | done | exact rfl | exact ⟨rfl, rfl⟩); go_simp; refine hK _ _ ?_; clear hK K)
        (apply wpOrd_comes; ((· first | (rw [List.getElem?_toArray, List.getElem?_cons_zero]; done) | (simp only [List.getElem?_toArray, List.getElem?_cons_succ, List.getElem?_cons_zero]; exact rfl))); intro N hN)
        go_wp2_with (go_at_call 15; (with_reducible refine (write_st H5'.out HOK.out (by omega) _ (twoB_len j.by_ k)).mono ?_); rintro x W6 ⟨rfl, hS6⟩; have H6 := hid hS6; clear hS6)
        refine hN _ _ (fun _ => ⟨(blk_cell H6.out.at4 1).trans rfl, run_loadK_box H6.out.at3.blk Try.underlying33 rfl size33 HRZ.out⟩) ?_
        clear hN N
        (apply wpOrd_comes; ((· first | (rw [List.getElem?_toArray, List.getElem?_cons_zero]; done) | (simp only [List.getElem?_toArray, List.getElem?_cons_succ, List.getElem?_cons_zero]; exact rfl))); intro N hN)
        go_wp2_with (go_at_call 21; (with_reducible refine (rwrite_st H6.out.at2 HOK.out (by omega) _ (twoB_len j.by_ k)).mono ?_); rintro x W7 ⟨rfl, hS7⟩; have H7 := hid hS7.at2; clear hS7)
        refine hN _ _ (fun _ => ⟨(blk_cell H7.out.at4 1).trans rfl, run_loadK_box H7.out.at3.blk Try.underlying33 rfl size33 HRZ.out⟩) ?_
        clear hN N
        repeat (apply wpOrd_class; ((· first | (rw [List.getElem?_toArray, List.getElem?_cons_zero]; done) | (simp only [List.getElem?_toArray, List.getElem?_cons_succ, List.getElem?_cons_zero]; exact rfl))); (· exact rfl); intro K hK; apply Exists.intro; refine And.intro (fun X' hX' => ?_) ?_; (· have hX1 := hX'.1; have hX2 := hX'.2; clear hX'; go_simp; (try go_bits); first | done | exact rfl | exact ⟨rfl, rfl⟩); go_simp; refine hK _ _ ?_; clear hK K)
        refine wpOrd_done ?_
        go_wp2_with fail
        obtain ⟨S', HOK', HTD', HLN', HT⟩ : ∃ S' : DS, Hid (S'.Ok (k + 1)) ∧ Hid S'.Tied ∧ Hid (S'.now.length = m + 1) ∧ Hid (∃ L, St w (Disk p S' :: Ref q S' :: L) W7) := ⟨(S.write j.at_ (twoB j.by_ k)).1, hid (HOK.out.write _ (twoB_len j.by_ k)), hid (HTD.out.write _ _), hid ((write_len S _ _).trans HLN.out), hid ⟨_, H7.out⟩⟩
        obtain ⟨LL, T0⟩ := HT.out
        obtain ⟨_, AT, cT, r1, r2, _, r4, _⟩ := ref_cells T0.at2
        have HT1 := hid (T0.turn (Below.drew (Below.refl _ _)))
        clear T0
        refine wp_region_ord [] [(0, 1), (2, 1), (3, 1), (4, 1), (5, 1), (1, 2), (6, 1), (7, 1), (8, 1), (10, 1), (11, 1), (12, 1), (13, 1), (9, 2), (14, 1), (15, 1), (16, 1), (17, 1), (19, 1), (20, 1), (21, 1), (22, 1), (23, 1), (18, 2), (24, 1), (25, 1)] (fun X => X = World.drew W7) (by kernel_rfl) (by kernel_rfl) (fun d _ c _ _ h => by cases d <;> exact h) rfl (fun X hXe _ => ?_)
        subst hXe
        repeat (apply wpOrd_class; ((· first | (rw [List.getElem?_toArray, List.getElem?_cons_zero]; done) | (simp only [List.getElem?_toArray, List.getElem?_cons_succ, List.getElem?_cons_zero]; exact rfl))); (· exact rfl); intro K hK; apply Exists.intro; refine And.intro (fun X' hX' => ?_) ?_; (· go_simp; (try go_bits); first | done | exact rfl | exact ⟨rfl, rfl⟩); go_simp; refine hK _ _ ?_; clear hK K)
        (apply wpOrd_comes; ((· first | (rw [List.getElem?_toArray, List.getElem?_cons_zero]; done) | (simp only [List.getElem?_toArray, List.getElem?_cons_succ, List.getElem?_cons_zero]; exact rfl))); intro N hN)
        go_wp2_with (go_at_call 25; (with_reducible refine (down_st HT1.out).mono ?_); rintro x w' ⟨rfl, rfl⟩)
        refine hN _ _ (fun _ => rfl) ?_
        clear hN N
        repeat (apply wpOrd_class; ((· first | (rw [List.getElem?_toArray, List.getElem?_cons_zero]; done) | (simp only [List.getElem?_toArray, List.getElem?_cons_succ, List.getElem?_cons_zero]; exact rfl))); (· exact rfl); intro K hK; apply Exists.intro; refine And.intro (fun X' hX' => ?_) ?_; (· go_simp; (try go_bits); first | done | exact rfl | exact ⟨rfl, rfl⟩); go_simp; refine hK _ _ ?_; clear hK K)
        (apply wpOrd_comes; ((· first | (rw [List.getElem?_toArray, List.getElem?_cons_zero]; done) | (simp only [List.getElem?_toArray, List.getElem?_cons_succ, List.getElem?_cons_zero]; exact rfl))); intro N hN)
        go_wp2_with (go_at_call 26; (with_reducible refine (writes_st HT1.out).mono ?_); rintro x w' ⟨rfl, rfl⟩)
        refine hN _ _ (fun _ => rfl) ?_
        clear hN N
        repeat (apply wpOrd_class; ((· first | (rw [List.getElem?_toArray, List.getElem?_cons_zero]; done) | (simp only [List.getElem?_toArray, List.getElem?_cons_succ, List.getElem?_cons_zero]; exact rfl))); (· exact rfl); intro K hK; apply Exists.intro; refine And.intro (fun X' hX' => ?_) ?_; (· go_simp; (try go_bits); first | done | exact rfl | exact ⟨rfl, rfl⟩); go_simp; refine hK _ _ ?_; clear hK K)
        (apply wpOrd_comes; ((· first | (rw [List.getElem?_toArray, List.getElem?_cons_zero]; done) | (simp only [List.getElem?_toArray, List.getElem?_cons_succ, List.getElem?_cons_zero]; exact rfl))); intro N hN)
        go_wp2_with (go_at_call 27; (with_reducible refine (waiting_st HT1.out).mono ?_); rintro x w' ⟨rfl, rfl⟩)
        refine hN _ _ (fun _ => rfl) ?_
        clear hN N
        repeat (apply wpOrd_class; ((· first | (rw [List.getElem?_toArray, List.getElem?_cons_zero]; done) | (simp only [List.getElem?_toArray, List.getElem?_cons_succ, List.getElem?_cons_zero]; exact rfl))); (· exact rfl); intro K hK; apply Exists.intro; refine And.intro (fun X' hX' => ?_) ?_; (· go_simp; (try go_bits); first | done | exact rfl | exact ⟨rfl, rfl⟩); go_simp; refine hK _ _ ?_; clear hK K)
        refine wpOrd_done ?_
        clear r1 r2 r4
        go_wp2
        go_roundw
        case rel => exact ⟨k + 1, by omega, by go_num, S', HOK', HTD', HLN', hid (HT1.out.firsts)⟩
        case measure => simp [intOf]; omega
      | 3, _ =>
        go_wp2_with (first | (refine wpList_alloc 37 rfl rfl zero37v zero37 ?_; intro gj W1 hJ hjl hjg hW1) | (refine wpList_store_box 37 _ _ rfl gj rfl rfl (jobV j Ak ck) rfl 4 size37 rfl (jobV_one j Ak ck) 37 _ hJ rfl ?_; intro W2 hJ2 hT2 hs2; have e0 : W2.cell? ⟨gj, 0, none⟩ = some (.int .i64 j.what) := (cell_of_row W2 gj 0 _ _ _ hJ2).trans rfl; have H2 := hid ((HS.out.newBlk hW1 hjg hJ).put hJ2 hT2).back3) | (go_at_call 16; (with_reducible refine (sync_st H2.out HOK.out (by omega)).mono ?_); rintro x W3 ⟨rfl, hS3⟩; have H3 := hid hS3; clear hS3) | (go_at_call 22; (with_reducible refine (rsync_st H3.out.at2 HOK.out (by omega)).mono ?_); rintro x W4 ⟨rfl, hS4⟩; have H4 := hid hS4.at2; clear hS4))
        obtain ⟨S', HOK', HTD', HLN', HT⟩ : ∃ S' : DS, Hid (S'.Ok (k + 1)) ∧ Hid S'.Tied ∧ Hid (S'.now.length = m + 1) ∧ Hid (∃ L, St w (Disk p S' :: Ref q S' :: L) W4) := ⟨S.sync.1, hid (HOK.out.sync.mono (by omega)), hid (HTD.out.sync HOK.out.len), hid ((sync_len S).trans HLN.out), hid ⟨_, H4.out⟩⟩
        obtain ⟨LL, T0⟩ := HT.out
        obtain ⟨_, AT, cT, r1, r2, _, r4, _⟩ := ref_cells T0.at2
        have HT1 := hid (T0.turn (Below.drew (Below.refl _ _)))
        clear T0
        refine wp_region_ord [] [(0, 1), (2, 1), (3, 1), (4, 1), (5, 1), (1, 2), (6, 1), (7, 1), (8, 1), (10, 1), (11, 1), (12, 1), (13, 1), (9, 2), (14, 1), (15, 1), (16, 1), (17, 1), (19, 1), (20, 1), (21, 1), (22, 1), (23, 1), (18, 2), (24, 1), (25, 1)] (fun X => X = World.drew W4) (by kernel_rfl) (by kernel_rfl) (fun d _ c _ _ h => by cases d <;> exact h) rfl (fun X hXe _ => ?_)
        subst hXe
        repeat (apply wpOrd_class; ((· first | (rw [List.getElem?_toArray, List.getElem?_cons_zero]; done) | (simp only [List.getElem?_toArray, List.getElem?_cons_succ, List.getElem?_cons_zero]; exact rfl))); (· exact rfl); intro K hK; apply Exists.intro; refine And.intro (fun X' hX' => ?_) ?_; (· go_simp; (try go_bits); first | done | exact rfl | exact ⟨rfl, rfl⟩); go_simp; refine hK _ _ ?_; clear hK K)
        (apply wpOrd_comes; ((· first | (rw [List.getElem?_toArray, List.getElem?_cons_zero]; done) | (simp only [List.getElem?_toArray, List.getElem?_cons_succ, List.getElem?_cons_zero]; exact rfl))); intro N hN)
        go_wp2_with (go_at_call 25; (with_reducible refine (down_st HT1.out).mono ?_); rintro x w' ⟨rfl, rfl⟩)
        refine hN _ _ (fun _ => rfl) ?_
        clear hN N
        repeat (apply wpOrd_class; ((· first | (rw [List.getElem?_toArray, List.getElem?_cons_zero]; done) | (simp only [List.getElem?_toArray, List.getElem?_cons_succ, List.getElem?_cons_zero]; exact rfl))); (· exact rfl); intro K hK; apply Exists.intro; refine And.intro (fun X' hX' => ?_) ?_; (· go_simp; (try go_bits); first | done | exact rfl | exact ⟨rfl, rfl⟩); go_simp; refine hK _ _ ?_; clear hK K)
        (apply wpOrd_comes; ((· first | (rw [List.getElem?_toArray, List.getElem?_cons_zero]; done) | (simp only [List.getElem?_toArray, List.getElem?_cons_succ, List.getElem?_cons_zero]; exact rfl))); intro N hN)
        go_wp2_with (go_at_call 26; (with_reducible refine (writes_st HT1.out).mono ?_); rintro x w' ⟨rfl, rfl⟩)
        refine hN _ _ (fun _ => rfl) ?_
        clear hN N
        repeat (apply wpOrd_class; ((· first | (rw [List.getElem?_toArray, List.getElem?_cons_zero]; done) | (simp only [List.getElem?_toArray, List.getElem?_cons_succ, List.getElem?_cons_zero]; exact rfl))); (· exact rfl); intro K hK; apply Exists.intro; refine And.intro (fun X' hX' => ?_) ?_; (· go_simp; (try go_bits); first | done | exact rfl | exact ⟨rfl, rfl⟩); go_simp; refine hK _ _ ?_; clear hK K)
        (apply wpOrd_comes; ((· first | (rw [List.getElem?_toArray, List.getElem?_cons_zero]; done) | (simp only [List.getElem?_toArray, List.getElem?_cons_succ, List.getElem?_cons_zero]; exact rfl))); intro N hN)
        go_wp2_with (go_at_call 27; (with_reducible refine (waiting_st HT1.out).mono ?_); rintro x w' ⟨rfl, rfl⟩)
        refine hN _ _ (fun _ => rfl) ?_
        clear hN N
        repeat (apply wpOrd_class; ((· first | (rw [List.getElem?_toArray, List.getElem?_cons_zero]; done) | (simp only [List.getElem?_toArray, List.getElem?_cons_succ, List.getElem?_cons_zero]; exact rfl))); (· exact rfl); intro K hK; apply Exists.intro; refine And.intro (fun X' hX' => ?_) ?_; (· go_simp; (try go_bits); first | done | exact rfl | exact ⟨rfl, rfl⟩); go_simp; refine hK _ _ ?_; clear hK K)
        refine wpOrd_done ?_
        clear r1 r2 r4
        go_wp2
        go_roundw
        case rel => exact ⟨k + 1, by omega, by go_num, S', HOK', HTD', HLN', hid (HT1.out.firsts)⟩
        case measure => simp [intOf]; omega
      | 4, _ =>
        by_cases hpos : 0 ≤ j.at_
        · have hmax : max j.at_ 0 = j.at_ := by omega
          go_wp2_with (first | (refine wpList_alloc 37 rfl rfl zero37v zero37 ?_; intro gj W1 hJ hjl hjg hW1) | (refine wpList_store_box 37 _ _ rfl gj rfl rfl (jobV j Ak ck) rfl 4 size37 rfl (jobV_one j Ak ck) 37 _ hJ rfl ?_; intro W2 hJ2 hT2 hs2; have e0 : W2.cell? ⟨gj, 0, none⟩ = some (.int .i64 j.what) := (cell_of_row W2 gj 0 _ _ _ hJ2).trans rfl; have e1 : W2.cell? ⟨gj, 1, none⟩ = some (.int .i64 j.at_) := (cell_of_row W2 gj 1 _ _ _ hJ2).trans rfl; have H2 := hid ((HS.out.newBlk hW1 hjg hJ).put hJ2 hT2).back3) | (go_at_call 23; (with_reducible refine (arm_st H2.out _).mono ?_); rintro x W3 ⟨rfl, hS3⟩; obtain ⟨_, _, _, _, _, c3, _, f3⟩ := ref_cells hS3.at2; have g1 : W3.cell? ⟨gj, 1, none⟩ = some (.int .i64 j.at_) := (blk_cell hS3.at3 1).trans rfl; have H3 := hid hS3; clear hS3))
          have hS4 := (ref_arm H3.out.at2 j.at_).at2
          rw [hmax] at hS4
          have H4 := hid hS4
          clear hS4 c3 f3 g1
          obtain ⟨W4, hW4⟩ : ∃ W4, W4 = W3.setCell ⟨q, 3, none⟩ (.int .i64 j.at_) := ⟨_, rfl⟩
          rw [← hW4] at H4 ⊢
          clear hW4
          obtain ⟨S', HOK', HTD', HLN', HT⟩ : ∃ S' : DS, Hid (S'.Ok (k + 1)) ∧ Hid S'.Tied ∧ Hid (S'.now.length = m + 1) ∧ Hid (∃ L, St w (Disk p S' :: Ref q S' :: L) W4) := ⟨(S.arm j.at_), hid ((HOK.out.arm b4).mono (by omega)), hid (HTD.out.arm _), hid HLN.out, hid ⟨_, H4.out⟩⟩
          obtain ⟨LL, T0⟩ := HT.out
          obtain ⟨_, AT, cT, r1, r2, _, r4, _⟩ := ref_cells T0.at2
          have HT1 := hid (T0.turn (Below.drew (Below.refl _ _)))
          clear T0
          refine wp_region_ord [] [(0, 1), (2, 1), (3, 1), (4, 1), (5, 1), (1, 2), (6, 1), (7, 1), (8, 1), (10, 1), (11, 1), (12, 1), (13, 1), (9, 2), (14, 1), (15, 1), (16, 1), (17, 1), (19, 1), (20, 1), (21, 1), (22, 1), (23, 1), (18, 2), (24, 1), (25, 1)] (fun X => X = World.drew W4) (by kernel_rfl) (by kernel_rfl) (fun d _ c _ _ h => by cases d <;> exact h) rfl (fun X hXe _ => ?_)
          subst hXe
          repeat (apply wpOrd_class; ((· first | (rw [List.getElem?_toArray, List.getElem?_cons_zero]; done) | (simp only [List.getElem?_toArray, List.getElem?_cons_succ, List.getElem?_cons_zero]; exact rfl))); (· exact rfl); intro K hK; apply Exists.intro; refine And.intro (fun X' hX' => ?_) ?_; (· go_simp; (try go_bits); first | done | exact rfl | exact ⟨rfl, rfl⟩); go_simp; refine hK _ _ ?_; clear hK K)
          (apply wpOrd_comes; ((· first | (rw [List.getElem?_toArray, List.getElem?_cons_zero]; done) | (simp only [List.getElem?_toArray, List.getElem?_cons_succ, List.getElem?_cons_zero]; exact rfl))); intro N hN)
          go_wp2_with (go_at_call 25; (with_reducible refine (down_st HT1.out).mono ?_); rintro x w' ⟨rfl, rfl⟩)
          refine hN _ _ (fun _ => rfl) ?_
          clear hN N
          repeat (apply wpOrd_class; ((· first | (rw [List.getElem?_toArray, List.getElem?_cons_zero]; done) | (simp only [List.getElem?_toArray, List.getElem?_cons_succ, List.getElem?_cons_zero]; exact rfl))); (· exact rfl); intro K hK; apply Exists.intro; refine And.intro (fun X' hX' => ?_) ?_; (· go_simp; (try go_bits); first | done | exact rfl | exact ⟨rfl, rfl⟩); go_simp; refine hK _ _ ?_; clear hK K)
          (apply wpOrd_comes; ((· first | (rw [List.getElem?_toArray, List.getElem?_cons_zero]; done) | (simp only [List.getElem?_toArray, List.getElem?_cons_succ, List.getElem?_cons_zero]; exact rfl))); intro N hN)
          go_wp2_with (go_at_call 26; (with_reducible refine (writes_st HT1.out).mono ?_); rintro x w' ⟨rfl, rfl⟩)
          refine hN _ _ (fun _ => rfl) ?_
          clear hN N
          repeat (apply wpOrd_class; ((· first | (rw [List.getElem?_toArray, List.getElem?_cons_zero]; done) | (simp only [List.getElem?_toArray, List.getElem?_cons_succ, List.getElem?_cons_zero]; exact rfl))); (· exact rfl); intro K hK; apply Exists.intro; refine And.intro (fun X' hX' => ?_) ?_; (· go_simp; (try go_bits); first | done | exact rfl | exact ⟨rfl, rfl⟩); go_simp; refine hK _ _ ?_; clear hK K)
          (apply wpOrd_comes; ((· first | (rw [List.getElem?_toArray, List.getElem?_cons_zero]; done) | (simp only [List.getElem?_toArray, List.getElem?_cons_succ, List.getElem?_cons_zero]; exact rfl))); intro N hN)
          go_wp2_with (go_at_call 27; (with_reducible refine (waiting_st HT1.out).mono ?_); rintro x w' ⟨rfl, rfl⟩)
          refine hN _ _ (fun _ => rfl) ?_
          clear hN N
          repeat (apply wpOrd_class; ((· first | (rw [List.getElem?_toArray, List.getElem?_cons_zero]; done) | (simp only [List.getElem?_toArray, List.getElem?_cons_succ, List.getElem?_cons_zero]; exact rfl))); (· exact rfl); intro K hK; apply Exists.intro; refine And.intro (fun X' hX' => ?_) ?_; (· go_simp; (try go_bits); first | done | exact rfl | exact ⟨rfl, rfl⟩); go_simp; refine hK _ _ ?_; clear hK K)
          refine wpOrd_done ?_
          clear r1 r2 r4
          go_wp2
          go_roundw
          case rel => exact ⟨k + 1, by omega, by go_num, S', HOK', HTD', HLN', hid (HT1.out.firsts)⟩
          case measure => simp [intOf]; omega
        · have hmax : max j.at_ 0 = 0 := by omega
          go_wp2_with (first | (refine wpList_alloc 37 rfl rfl zero37v zero37 ?_; intro gj W1 hJ hjl hjg hW1) | (refine wpList_store_box 37 _ _ rfl gj rfl rfl (jobV j Ak ck) rfl 4 size37 rfl (jobV_one j Ak ck) 37 _ hJ rfl ?_; intro W2 hJ2 hT2 hs2; have e0 : W2.cell? ⟨gj, 0, none⟩ = some (.int .i64 j.what) := (cell_of_row W2 gj 0 _ _ _ hJ2).trans rfl; have e1 : W2.cell? ⟨gj, 1, none⟩ = some (.int .i64 j.at_) := (cell_of_row W2 gj 1 _ _ _ hJ2).trans rfl; have H2 := hid ((HS.out.newBlk hW1 hjg hJ).put hJ2 hT2).back3) | (go_at_call 23; (with_reducible refine (arm_st H2.out _).mono ?_); rintro x W3 ⟨rfl, hS3⟩; obtain ⟨_, _, _, _, _, c3, _, f3⟩ := ref_cells hS3.at2; have g1 : W3.cell? ⟨gj, 1, none⟩ = some (.int .i64 j.at_) := (blk_cell hS3.at3 1).trans rfl; have H3 := hid hS3; clear hS3))
          have hS4 := (ref_arm H3.out.at2 j.at_).at2
          rw [hmax] at hS4
          have H4 := hid hS4
          clear hS4 c3 f3 g1
          obtain ⟨W4, hW4⟩ : ∃ W4, W4 = W3.setCell ⟨q, 3, none⟩ (.int .i64 0) := ⟨_, rfl⟩
          rw [← hW4] at H4 ⊢
          clear hW4
          obtain ⟨S', HOK', HTD', HLN', HT⟩ : ∃ S' : DS, Hid (S'.Ok (k + 1)) ∧ Hid S'.Tied ∧ Hid (S'.now.length = m + 1) ∧ Hid (∃ L, St w (Disk p S' :: Ref q S' :: L) W4) := ⟨(S.arm j.at_), hid ((HOK.out.arm b4).mono (by omega)), hid (HTD.out.arm _), hid HLN.out, hid ⟨_, H4.out⟩⟩
          obtain ⟨LL, T0⟩ := HT.out
          obtain ⟨_, AT, cT, r1, r2, _, r4, _⟩ := ref_cells T0.at2
          have HT1 := hid (T0.turn (Below.drew (Below.refl _ _)))
          clear T0
          refine wp_region_ord [] [(0, 1), (2, 1), (3, 1), (4, 1), (5, 1), (1, 2), (6, 1), (7, 1), (8, 1), (10, 1), (11, 1), (12, 1), (13, 1), (9, 2), (14, 1), (15, 1), (16, 1), (17, 1), (19, 1), (20, 1), (21, 1), (22, 1), (23, 1), (18, 2), (24, 1), (25, 1)] (fun X => X = World.drew W4) (by kernel_rfl) (by kernel_rfl) (fun d _ c _ _ h => by cases d <;> exact h) rfl (fun X hXe _ => ?_)
          subst hXe
          repeat (apply wpOrd_class; ((· first | (rw [List.getElem?_toArray, List.getElem?_cons_zero]; done) | (simp only [List.getElem?_toArray, List.getElem?_cons_succ, List.getElem?_cons_zero]; exact rfl))); (· exact rfl); intro K hK; apply Exists.intro; refine And.intro (fun X' hX' => ?_) ?_; (· go_simp; (try go_bits); first | done | exact rfl | exact ⟨rfl, rfl⟩); go_simp; refine hK _ _ ?_; clear hK K)
          (apply wpOrd_comes; ((· first | (rw [List.getElem?_toArray, List.getElem?_cons_zero]; done) | (simp only [List.getElem?_toArray, List.getElem?_cons_succ, List.getElem?_cons_zero]; exact rfl))); intro N hN)
          go_wp2_with (go_at_call 25; (with_reducible refine (down_st HT1.out).mono ?_); rintro x w' ⟨rfl, rfl⟩)
          refine hN _ _ (fun _ => rfl) ?_
          clear hN N
          repeat (apply wpOrd_class; ((· first | (rw [List.getElem?_toArray, List.getElem?_cons_zero]; done) | (simp only [List.getElem?_toArray, List.getElem?_cons_succ, List.getElem?_cons_zero]; exact rfl))); (· exact rfl); intro K hK; apply Exists.intro; refine And.intro (fun X' hX' => ?_) ?_; (· go_simp; (try go_bits); first | done | exact rfl | exact ⟨rfl, rfl⟩); go_simp; refine hK _ _ ?_; clear hK K)
          (apply wpOrd_comes; ((· first | (rw [List.getElem?_toArray, List.getElem?_cons_zero]; done) | (simp only [List.getElem?_toArray, List.getElem?_cons_succ, List.getElem?_cons_zero]; exact rfl))); intro N hN)
          go_wp2_with (go_at_call 26; (with_reducible refine (writes_st HT1.out).mono ?_); rintro x w' ⟨rfl, rfl⟩)
          refine hN _ _ (fun _ => rfl) ?_
          clear hN N
          repeat (apply wpOrd_class; ((· first | (rw [List.getElem?_toArray, List.getElem?_cons_zero]; done) | (simp only [List.getElem?_toArray, List.getElem?_cons_succ, List.getElem?_cons_zero]; exact rfl))); (· exact rfl); intro K hK; apply Exists.intro; refine And.intro (fun X' hX' => ?_) ?_; (· go_simp; (try go_bits); first | done | exact rfl | exact ⟨rfl, rfl⟩); go_simp; refine hK _ _ ?_; clear hK K)
          (apply wpOrd_comes; ((· first | (rw [List.getElem?_toArray, List.getElem?_cons_zero]; done) | (simp only [List.getElem?_toArray, List.getElem?_cons_succ, List.getElem?_cons_zero]; exact rfl))); intro N hN)
          go_wp2_with (go_at_call 27; (with_reducible refine (waiting_st HT1.out).mono ?_); rintro x w' ⟨rfl, rfl⟩)
          refine hN _ _ (fun _ => rfl) ?_
          clear hN N
          repeat (apply wpOrd_class; ((· first | (rw [List.getElem?_toArray, List.getElem?_cons_zero]; done) | (simp only [List.getElem?_toArray, List.getElem?_cons_succ, List.getElem?_cons_zero]; exact rfl))); (· exact rfl); intro K hK; apply Exists.intro; refine And.intro (fun X' hX' => ?_) ?_; (· go_simp; (try go_bits); first | done | exact rfl | exact ⟨rfl, rfl⟩); go_simp; refine hK _ _ ?_; clear hK K)
          refine wpOrd_done ?_
          clear r1 r2 r4
          go_wp2
          go_roundw
          case rel => exact ⟨k + 1, by omega, by go_num, S', HOK', HTD', HLN', hid (HT1.out.firsts)⟩
          case measure => simp [intOf]; omega
      | 5, _ =>
        go_wp2_with (first | (refine wpList_alloc 37 rfl rfl zero37v zero37 ?_; intro gj W1 hJ hjl hjg hW1) | (refine wpList_store_box 37 _ _ rfl gj rfl rfl (jobV j Ak ck) rfl 4 size37 rfl (jobV_one j Ak ck) 37 _ hJ rfl ?_; intro W2 hJ2 hT2 hs2; have e0 : W2.cell? ⟨gj, 0, none⟩ = some (.int .i64 j.what) := (cell_of_row W2 gj 0 _ _ _ hJ2).trans rfl; have e3 : W2.cell? ⟨gj, 3, none⟩ = some (.slice Ak j.keep.length ck) := (cell_of_row W2 gj 3 _ _ _ hJ2).trans rfl; have H2 := hid ((HS.out.newBlk hW1 hjg hJ).put hJ2 hT2).back3) | (go_at_call 17; (with_reducible refine (crash_st H2.out HOK.out (by omega) hkl HK.out).mono ?_); rintro x W3 ⟨rfl, hS3⟩; have g3 : W3.cell? ⟨gj, 3, none⟩ = some (.slice Ak j.keep.length ck) := (blk_cell hS3.at3 3).trans rfl; have H3 := hid hS3; clear hS3) | (go_at_call 24; (with_reducible refine (rcrash_st H3.out.at2 HOK.out (by omega) hkl HK.out).mono ?_); rintro x W4 ⟨rfl, hS4⟩; have H4 := hid hS4.at2; clear hS4))
        obtain ⟨S', HOK', HTD', HLN', HT⟩ : ∃ S' : DS, Hid (S'.Ok (k + 1)) ∧ Hid S'.Tied ∧ Hid (S'.now.length = m + 1) ∧ Hid (∃ L, St w (Disk p S' :: Ref q S' :: L) W4) := ⟨(S.crash j.keep), hid ((HOK.out.crash _).mono (by omega)), hid (HTD.out.crash HOK.out.len _), hid ((crash_len S _).trans HLN.out), hid ⟨_, H4.out⟩⟩
        obtain ⟨LL, T0⟩ := HT.out
        obtain ⟨_, AT, cT, r1, r2, _, r4, _⟩ := ref_cells T0.at2
        have HT1 := hid (T0.turn (Below.drew (Below.refl _ _)))
        clear T0
        refine wp_region_ord [] [(0, 1), (2, 1), (3, 1), (4, 1), (5, 1), (1, 2), (6, 1), (7, 1), (8, 1), (10, 1), (11, 1), (12, 1), (13, 1), (9, 2), (14, 1), (15, 1), (16, 1), (17, 1), (19, 1), (20, 1), (21, 1), (22, 1), (23, 1), (18, 2), (24, 1), (25, 1)] (fun X => X = World.drew W4) (by kernel_rfl) (by kernel_rfl) (fun d _ c _ _ h => by cases d <;> exact h) rfl (fun X hXe _ => ?_)
        subst hXe
        repeat (apply wpOrd_class; ((· first | (rw [List.getElem?_toArray, List.getElem?_cons_zero]; done) | (simp only [List.getElem?_toArray, List.getElem?_cons_succ, List.getElem?_cons_zero]; exact rfl))); (· exact rfl); intro K hK; apply Exists.intro; refine And.intro (fun X' hX' => ?_) ?_; (· go_simp; (try go_bits); first | done | exact rfl | exact ⟨rfl, rfl⟩); go_simp; refine hK _ _ ?_; clear hK K)
        (apply wpOrd_comes; ((· first | (rw [List.getElem?_toArray, List.getElem?_cons_zero]; done) | (simp only [List.getElem?_toArray, List.getElem?_cons_succ, List.getElem?_cons_zero]; exact rfl))); intro N hN)
        go_wp2_with (go_at_call 25; (with_reducible refine (down_st HT1.out).mono ?_); rintro x w' ⟨rfl, rfl⟩)
        refine hN _ _ (fun _ => rfl) ?_
        clear hN N
        repeat (apply wpOrd_class; ((· first | (rw [List.getElem?_toArray, List.getElem?_cons_zero]; done) | (simp only [List.getElem?_toArray, List.getElem?_cons_succ, List.getElem?_cons_zero]; exact rfl))); (· exact rfl); intro K hK; apply Exists.intro; refine And.intro (fun X' hX' => ?_) ?_; (· go_simp; (try go_bits); first | done | exact rfl | exact ⟨rfl, rfl⟩); go_simp; refine hK _ _ ?_; clear hK K)
        (apply wpOrd_comes; ((· first | (rw [List.getElem?_toArray, List.getElem?_cons_zero]; done) | (simp only [List.getElem?_toArray, List.getElem?_cons_succ, List.getElem?_cons_zero]; exact rfl))); intro N hN)
        go_wp2_with (go_at_call 26; (with_reducible refine (writes_st HT1.out).mono ?_); rintro x w' ⟨rfl, rfl⟩)
        refine hN _ _ (fun _ => rfl) ?_
        clear hN N
        repeat (apply wpOrd_class; ((· first | (rw [List.getElem?_toArray, List.getElem?_cons_zero]; done) | (simp only [List.getElem?_toArray, List.getElem?_cons_succ, List.getElem?_cons_zero]; exact rfl))); (· exact rfl); intro K hK; apply Exists.intro; refine And.intro (fun X' hX' => ?_) ?_; (· go_simp; (try go_bits); first | done | exact rfl | exact ⟨rfl, rfl⟩); go_simp; refine hK _ _ ?_; clear hK K)
        (apply wpOrd_comes; ((· first | (rw [List.getElem?_toArray, List.getElem?_cons_zero]; done) | (simp only [List.getElem?_toArray, List.getElem?_cons_succ, List.getElem?_cons_zero]; exact rfl))); intro N hN)
        go_wp2_with (go_at_call 27; (with_reducible refine (waiting_st HT1.out).mono ?_); rintro x w' ⟨rfl, rfl⟩)
        refine hN _ _ (fun _ => rfl) ?_
        clear hN N
        repeat (apply wpOrd_class; ((· first | (rw [List.getElem?_toArray, List.getElem?_cons_zero]; done) | (simp only [List.getElem?_toArray, List.getElem?_cons_succ, List.getElem?_cons_zero]; exact rfl))); (· exact rfl); intro K hK; apply Exists.intro; refine And.intro (fun X' hX' => ?_) ?_; (· go_simp; (try go_bits); first | done | exact rfl | exact ⟨rfl, rfl⟩); go_simp; refine hK _ _ ?_; clear hK K)
        refine wpOrd_done ?_
        clear r1 r2 r4
        go_wp2
        go_roundw
        case rel => exact ⟨k + 1, by omega, by go_num, S', HOK', HTD', HLN', hid (HT1.out.firsts)⟩
        case measure => simp [intOf]; omega
      | _ + 6, h => omega
    · by_cases hl : (k : Int) < (row.length : Int)
      · have h60 : ¬ (k : Int) < 60 := by omega
        clear hlt
        go_wp2_with fail
        go_loopw [15] (fun i X => ∃ k2 : Nat, k2 ≤ m + 1 ∧ i = .int .i64 k2 ∧ Hid (St w [Disk p S, Ref q S] X)) (fun i _ => m + 1 - (intOf i).toNat)
        case atStart => exact ⟨0, by omega, rfl, HS⟩
        case round =>
          clear HS
          obtain ⟨k2, hk2, rfl, HS2⟩ := hrel
          by_cases hlt2 : k2 < m + 1
          · have hlt3 : (k2 : Int) < 1 + (m : Int) := by omega
            obtain ⟨i, hi⟩ : ∃ i : Int, i = (k2 : Int) := ⟨_, rfl⟩
            have HRL := hid (rd_len HOK.out i)
            have HRZ := hid ((bv_size _).trans HRL.out)
            have CM := fun (x y : Operand) (W : World) => run_cmpK_neq (P := Try.prog) guard32 Try.underlying32 be5 cells5 HRL.out HRL.out x y W
            simp only [decide_true, Bool.not_true] at CM
            have hi1 : i < 1 + (m : Int) := by omega
            have hi0 : 0 ≤ i := by omega
            have hi6 : m ≤ 5 := by omega
            rw [← hi]
            have HI := hid hi
            clear hi hlt3
            go_wp2_with (first | (go_at_call 18; (with_reducible refine (read_rd HS2.out HOK.out _).mono ?_); rintro x W3 ⟨rfl, hS3⟩; have H3 := hid hS3; clear hS3) | (refine wpList_alloc 33 rfl rfl (.agg (bv zeroB)) zero33 ?_; intro gA W4 hA hal hag hW4) | (refine wpList_store_box 33 _ _ rfl gA rfl rfl (bv (S.rd i)) rfl 128 size33 HRZ.out (bv_one _) 33 _ hA bvz ?_; intro W5 hA5 hT5 hs5; have H5 := hid ((H3.out.newBlk hW4 hag hA).put hA5 hT5).back3) | (go_at_call 20; (with_reducible refine (rread_rd H5.out.at2 HOK.out HTD.out (by omega) _).mono ?_); rintro x W6 ⟨rfl, hS6⟩; have H6 := hid hS6; clear hS6) | (refine wpList_alloc 32 rfl rfl (.agg (bv zeroB)) zero32 ?_; intro gB W7 hB hbl hbg hW7) | (refine wpList_store_box 32 _ _ rfl gB rfl rfl (bv (S.rd i)) rfl 128 size32 HRZ.out (bv_one _) 32 _ hB bvz ?_; intro W8 hB8 hT8 hs8; have H8 := hid ((H6.out.newBlk hW7 hbg hB).put hB8 hT8).back3.at2; have LA : (loadK 33 (.pointer (some ⟨gA, 0, none⟩))).run Try.prog W8 = .ok (.value (.agg (bv (S.rd i)))) W8 := run_loadK_box H8.out.at4.blk Try.underlying33 rfl size33 HRZ.out; have LB : (loadK 32 (.pointer (some ⟨gB, 0, none⟩))).run Try.prog W8 = .ok (.value (.agg (bv (S.rd i)))) W8 := run_loadK_box hB8 Try.underlying32 rfl size32 HRZ.out))
            clear LA LB CM hB8
            go_roundw
            case rel => exact ⟨k2 + 1, by omega, by rw [HI.out]; go_num, hid (H8.out.firsts)⟩
            case measure => have := HI.out; simp [intOf]; omega
          · have hlt3 : ¬ (k2 : Int) < 1 + (m : Int) := by omega
            go_wp2
            go_ret
            exact ⟨rfl, HS2.out.below⟩
      · clear hlt
        go_wp2_with fail
        go_loopw [15] (fun i X => ∃ k2 : Nat, k2 ≤ m + 1 ∧ i = .int .i64 k2 ∧ Hid (St w [Disk p S, Ref q S] X)) (fun i _ => m + 1 - (intOf i).toNat)
        case atStart => exact ⟨0, by omega, rfl, HS⟩
        case round =>
          clear HS
          obtain ⟨k2, hk2, rfl, HS2⟩ := hrel
          by_cases hlt2 : k2 < m + 1
          · have hlt3 : (k2 : Int) < 1 + (m : Int) := by omega
            obtain ⟨i, hi⟩ : ∃ i : Int, i = (k2 : Int) := ⟨_, rfl⟩
            have HRL := hid (rd_len HOK.out i)
            have HRZ := hid ((bv_size _).trans HRL.out)
            have CM := fun (x y : Operand) (W : World) => run_cmpK_neq (P := Try.prog) guard32 Try.underlying32 be5 cells5 HRL.out HRL.out x y W
            simp only [decide_true, Bool.not_true] at CM
            have hi1 : i < 1 + (m : Int) := by omega
            have hi0 : 0 ≤ i := by omega
            have hi6 : m ≤ 5 := by omega
            rw [← hi]
            have HI := hid hi
            clear hi hlt3
            go_wp2_with (first | (go_at_call 18; (with_reducible refine (read_rd HS2.out HOK.out _).mono ?_); rintro x W3 ⟨rfl, hS3⟩; have H3 := hid hS3; clear hS3) | (refine wpList_alloc 33 rfl rfl (.agg (bv zeroB)) zero33 ?_; intro gA W4 hA hal hag hW4) | (refine wpList_store_box 33 _ _ rfl gA rfl rfl (bv (S.rd i)) rfl 128 size33 HRZ.out (bv_one _) 33 _ hA bvz ?_; intro W5 hA5 hT5 hs5; have H5 := hid ((H3.out.newBlk hW4 hag hA).put hA5 hT5).back3) | (go_at_call 20; (with_reducible refine (rread_rd H5.out.at2 HOK.out HTD.out (by omega) _).mono ?_); rintro x W6 ⟨rfl, hS6⟩; have H6 := hid hS6; clear hS6) | (refine wpList_alloc 32 rfl rfl (.agg (bv zeroB)) zero32 ?_; intro gB W7 hB hbl hbg hW7) | (refine wpList_store_box 32 _ _ rfl gB rfl rfl (bv (S.rd i)) rfl 128 size32 HRZ.out (bv_one _) 32 _ hB bvz ?_; intro W8 hB8 hT8 hs8; have H8 := hid ((H6.out.newBlk hW7 hbg hB).put hB8 hT8).back3.at2; have LA : (loadK 33 (.pointer (some ⟨gA, 0, none⟩))).run Try.prog W8 = .ok (.value (.agg (bv (S.rd i)))) W8 := run_loadK_box H8.out.at4.blk Try.underlying33 rfl size33 HRZ.out; have LB : (loadK 32 (.pointer (some ⟨gB, 0, none⟩))).run Try.prog W8 = .ok (.value (.agg (bv (S.rd i)))) W8 := run_loadK_box hB8 Try.underlying32 rfl size32 HRZ.out))
            clear LA LB CM hB8
            go_roundw
            case rel => exact ⟨k2 + 1, by omega, by rw [HI.out]; go_num, hid (H8.out.firsts)⟩
            case measure => have := HI.out; simp [intOf]; omega
          · have hlt3 : ¬ (k2 : Int) < 1 + (m : Int) := by omega
            go_wp2
            go_ret
            exact ⟨rfl, HS2.out.below⟩
end Go.Proofs.Ythmchbdhikakhaa
