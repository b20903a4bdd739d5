/- Foul of extents; the story of them. -/
import Derived.Test.YthmchbdhikakhaaExtClear
namespace Go.Proofs.Ythmchbdhikakhaa
open Go.RowKit Go.Cu
theorem info3 : (Try.prog.info? 3).map (fun i => (i.zero, i.size, i.bytes)) = some (some (.int .i64 0), 1, 8) := by kernel_rfl
theorem zero3 (W : World) : (zeroValue 3).run Try.prog W = .ok (.int .i64 0) W := by kernel_rfl
/-- Numbers as cells. -/
def numV (l : List Nat) : List Value := l.map fun (i : Nat) => Value.int .i64 (i : Int)
def _root_.Go.Cu.DS.foul (S : DS) (e : Ex) (k : Nat) : List Nat := (List.range k).filter fun i => !S.clear (e.first + i * e.size) e.size
theorem foul_step (S : DS) (e : Ex) (k : Nat) : S.foul e (k + 1) = if S.clear (e.first + k * e.size) e.size = true then S.foul e k else S.foul e k ++ [k] := by
  unfold DS.foul
  rw [List.range_succ, List.filter_append]
  cases h : S.clear (e.first + k * e.size) e.size <;> simp [h]
theorem foul_le (S : DS) (e : Ex) (k : Nat) : (S.foul e k).length ≤ k := by
  unfold DS.foul
  exact Nat.le_trans (List.length_filter_le _ _) (by simp)
section
variable {W0 W : World} {L : List Atm} {p x : Nat} {S : DS} {N : Nat} {e : Ex}
set_option maxRecDepth 20000 in
set_option maxHeartbeats 4000000 in
theorem foul_st (h : St W0 (Disk p S :: Blk x (extV p e) 111 :: L) W) (hok : S.Ok N) (he : e.Ok S.now.length) (ho : S.off = false) :
    Calls Try.prog 36 #[.pointer (some ⟨x, 0, none⟩)] W fun r w' => ∃ v, r = .returned (.tuple #[v, .int .i64 0]) ∧ St W0 (Row v 3 1 (S.foul e e.count).length (numV (S.foul e e.count)) :: Disk p S :: Blk x (extV p e) 111 :: L) w' := by
  have HH := hid (h.nilRow 3 1)
  have HC := hid (fun (k : Nat) (hk : k < e.count) (X : World) (L' : List Atm) (h : St W0 (Disk p S :: Blk x (extV p e) 111 :: L') X) => clear_st h hok he ho hk)
  have hbig := he.big
  have hcn := he.c2
  obtain ⟨x0, x1, x2, x3⟩ := ext_cells h.at2.blk
  clear h hok he ho x0 x1 x3
  go_enter Try.func36, Try.ntmps36
  go_wp2_with fail
  clear x2
  go_loopw [4, 14] (fun v i X => ∃ k : Nat, k ≤ e.count ∧ i = .int .i64 k ∧ Hid (St W0 (Row v 3 1 (S.foul e k).length (numV (S.foul e k)) :: Disk p S :: Blk x (extV p e) 111 :: L) X)) (fun _ i _ => e.count - (intOf i).toNat)
  case atStart => exact ⟨0, by omega, rfl, HH⟩
  case round =>
    clear HH
    obtain ⟨k, hk, rfl, HS⟩ := hrel
    obtain ⟨A, c, rfl, _⟩ := row_slice HS.out
    by_cases hlt : k < e.count
    · have e1 : (k : Int) < (e.count : Int) := by omega
      have HST := hid (foul_step S e k)
      have hfl := foul_le S e k
      cases hc : S.clear (e.first + k * e.size) e.size
      · have HST := hid (HST.out.trans (if_neg (by rw [hc]; decide)))
        have HC1 := hid (show ∀ X, St W0 (Row (.slice A (S.foul e k).length c) 3 1 (S.foul e k).length (numV (S.foul e k)) :: Disk p S :: Blk x (extV p e) 111 :: L) X → Calls Try.prog 33 #[.pointer (some ⟨x, 0, none⟩), .int .i64 k] X fun r w' => r = .returned (.tuple #[.bool false, .int .i64 0]) ∧ St W0 (Row (.slice A (S.foul e k).length c) 3 1 (S.foul e k).length (numV (S.foul e k)) :: Disk p S :: Blk x (extV p e) 111 :: L) w' from fun X h =>
          (HC.out k hlt X _ h.back3).mono fun r w' hx => ⟨by rw [hx.1, hc], hx.2.at3⟩)
        clear hc
        obtain ⟨i0, hi, hiz, his, hib⟩ := info_parts info3
        have HI := hid (And.intro hi (And.intro hiz (And.intro his hib)))
        clear hi hiz his hib
        go_wp2_with (first | (go_at_call 33; (with_reducible refine (HC1.out _ HS.out).mono ?_); rintro r w1 ⟨rfl, hs1⟩; have HS1 := hid hs1; clear hs1) | (refine wpList_buildSlice1 _ rfl (.int .i64 k) (by simp [Act.eval]) rfl Try.underlying67 zero3 size3 (by decide) (by decide) rfl ?_; intro gs X1 hS hgs hges hX1b; have HS2 := hid (HS1.out.turn hX1b); have HNW := hid (news_box hS [.int .i64 k] rfl); clear hS hgs hges hX1b) | (refine wpList_append_at _ _ _ rfl (.slice A (S.foul e k).length c) rfl ⟨gs, 0, none⟩ 1 1 rfl rfl 3 i0 (.int .i64 0) 1 8 Try.underlying67 HI.out.1 HI.out.2.1 HI.out.2.2.1 HI.out.2.2.2 rfl (by decide) (S.foul e k).length (numV (S.foul e k)) HS2.out.row [.int .i64 k] rfl HNW.out (by simp [Value.oneCell']) (by unfold maxLen; omega) (by omega) ?_; intro v' V2 hO2 hT2 hfr; have HS3 := hid (HS2.out.grow hO2 hT2 hfr); clear hO2 hT2 hfr))
        go_roundw
        case rel =>
          refine ⟨k + 1, by omega, by go_num, hid ?_⟩
          rw [HST.out, List.length_append]
          have := HS3.out
          unfold numV at *
          rw [List.map_append]
          exact this
        case measure => simp [intOf]; omega
      · have HST := hid (HST.out.trans (if_pos hc))
        have HC1 := hid (show ∀ X, St W0 (Row (.slice A (S.foul e k).length c) 3 1 (S.foul e k).length (numV (S.foul e k)) :: Disk p S :: Blk x (extV p e) 111 :: L) X → Calls Try.prog 33 #[.pointer (some ⟨x, 0, none⟩), .int .i64 k] X fun r w' => r = .returned (.tuple #[.bool true, .int .i64 0]) ∧ St W0 (Row (.slice A (S.foul e k).length c) 3 1 (S.foul e k).length (numV (S.foul e k)) :: Disk p S :: Blk x (extV p e) 111 :: L) w' from fun X h =>
          (HC.out k hlt X _ h.back3).mono fun r w' hx => ⟨by rw [hx.1, hc], hx.2.at3⟩)
        clear hc
        go_wp2_with (go_at_call 33; (with_reducible refine (HC1.out _ HS.out).mono ?_); rintro r w1 ⟨rfl, hs1⟩; have HS1 := hid hs1; clear hs1)
        go_roundw
        case rel => exact ⟨k + 1, by omega, by go_num, hid (by rw [HST.out]; exact HS1.out)⟩
        case measure => simp [intOf]; omega
    · have e1 : ¬ (k : Int) < (e.count : Int) := by omega
      have e2 : k = e.count := by omega
      subst e2
      go_wp2
      go_ret2
      exact ⟨_, rfl, HS.out⟩
set_option maxRecDepth 20000 in
set_option maxHeartbeats 1000000 in
theorem extents_st (h : St W0 L W) : Calls Try.prog 31 #[] W fun r w' => r = .returned (.bool true) ∧ St W0 L w' := by
  have he : (⟨10, 3, 4⟩ : Ex).Ok (DS.new 30).now.length := ⟨by decide, by decide, by decide, by decide, by decide, by decide⟩
  have HE := hid he
  have HH := hid h
  have hok : (DS.new 30).Ok 0 := DS.Ok.new (by decide)
  have HOK := hid hok
  have HXN := hid (fun (X : World) (p : Nat) (hX : St W0 (Disk p (DS.new 30) :: L) X) => xnew_ok (f := 10) (c := 3) (s := 4) hX he rfl rfl rfl)
  clear h he hok
  go_enter Try.func31, Try.ntmps31
  go_wp2_with (first | (go_at_call 13; (with_reducible refine (new_sti HH.out (m := 30) (n := 30) rfl (by decide) (by decide)).mono ?_); rintro x w1 ⟨p, rfl, hs1⟩; have H1 := hid hs1; clear hs1) | (go_at_call 30; (with_reducible refine (HXN.out _ _ H1.out).mono ?_); rintro r w2 ⟨x, rfl, hs2⟩; have H2 := hid hs2; clear hs2))
  have HAR := hid (show Calls Try.prog 35 #[.pointer (some ⟨x, 0, none⟩), .int .i64 1] w2 fun r w' => r = .returned (.tuple #[.int .i64 14, .int .i64 4, .int .i64 0]) ∧ Below w2.heap.size w2 w' from area_in (i := 1) H2.out.blk HE.out (by decide))
  with_reducible refine HAR.out.mono ?_
  clear HAR
  rintro r w3 ⟨rfl, hb3⟩
  have H3 := hid (H2.out.turn hb3)
  clear hb3
  go_wp2_with fail
  with_reducible refine (of_any H3.out.blk HE.out 17).mono ?_
  rintro r w4 ⟨hx, hb4⟩
  replace hx : r = .returned (.int .i64 1) := hx
  subst hx
  have H4 := hid (H3.out.turn hb4)
  clear hb4
  go_wp2_with fail
  with_reducible refine (of_any H4.out.blk HE.out 9).mono ?_
  rintro r w5 ⟨hx, hb5⟩
  replace hx : r = .returned (.int .i64 (-1)) := hx
  subst hx
  have H5 := hid (H4.out.turn hb5)
  clear hb5
  go_wp2_with fail
  go_ret
  exact ⟨rfl, H5.out.drop.drop⟩
end
end Go.Proofs.Ythmchbdhikakhaa
