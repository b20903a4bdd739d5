/- CacheFull: the walk. -/
import Derived.Test.YtnakbdgoaepehaaCacheLaw
import Derived.Test.YtnakbdgoaepehaaOpen2
namespace Go.Cu
open Go Go.RowKit
theorem u64_rem (n : Int) (d : Nat) (hd : 0 < d) : ∃ m : Nat, (IntKind.u64.wrap n).tmod d = m ∧ m < d := by
  have h0 : 0 ≤ IntKind.u64.wrap n := by simp [IntKind.wrap, IntKind.signed, IntKind.bits]; omega
  rw [Int.tmod_eq_emod_of_nonneg h0]
  have h1 := Int.emod_nonneg (IntKind.u64.wrap n) (show (d : Int) ≠ 0 by omega)
  have h2 := Int.emod_lt_of_pos (IntKind.u64.wrap n) (show (0 : Int) < d by omega)
  exact ⟨(IntKind.u64.wrap n % d).toNat, by omega, by omega⟩
/-- Texts that can be read behind a slice. -/
def TextsIn (W : World) (A : Option Addr) (rs : List Str) : Prop := ∀ i r, rs[i]? = some r → r.length ≤ maxLen ∧ ∃ g o, A = some ⟨g, o, none⟩ ∧ g < W.heap.size ∧ W.cell? ⟨g, o + i, none⟩ = some (sv r)
section
variable {H : Type} {enc : TypeId × Value → H} {P : Program} {w : World} {base : Nat} {spare : Nat → Bool} {held : Bool}
theorem texts_cells {t e : TypeId} {fuel : Nat} {cs : List Value} {x : DataW H × List MemPlace} (ht : P.underlying t = some (.slice e)) (he : P.underlying e = some .string) (hc : P.cellsOf e = 1) (h : DataW.trod enc P w base spare held fuel t cs = some x) :
    ∃ (A : Option Addr) (c : Nat) (l : List Str), cs = [.slice A l.length c] ∧ TextsIn w A l := by
  obtain ⟨A, len, cap, rfl, h1, h2, h3⟩ := slice_cells ht hc (by omega) h
  obtain ⟨l, rfl, hp⟩ := choose_list (α := Str) (p := fun i r => r.length ≤ maxLen ∧ ∃ g o, A = some ⟨g, o, none⟩ ∧ g < w.heap.size ∧ w.cell? ⟨g, o + i, none⟩ = some (sv r)) len (fun i hi => by
    obtain ⟨g, o, n, cs', y, hA, hg, hl, hcell, hy⟩ := h3 i hi
    obtain ⟨s, rfl, _, hs⟩ := DataW.trod_string he hy
    have h4 := hcell 0 (by omega)
    refine ⟨s.data.toList, ?_, g, o, hA, hg, ?_⟩
    · have e : s.data.toList.length = s.size := Array.length_toList
      rw [e]; exact hs
    · rw [sv_eq, ← strB_of]
      simpa using h4)
  exact ⟨A, cap, l, rfl, hp⟩
theorem param_texts {r : Reach} {b0 : Nat} {t e : TypeId} {v : Value} {d : DataW H} {p : List MemPlace} (ht : P.underlying t = some (.slice e)) (he : P.underlying e = some .string) (hc : P.cellsOf e = 1)
    (hv : Value.okWide P w r b0 t v) (h : DataW.Trod enc P w base spare held t v d p) : ∃ (A : Option Addr) (c : Nat) (l : List Str), v = .slice A l.length c ∧ TextsIn w A l := by
  obtain ⟨fuel, hf⟩ := h
  obtain ⟨A, c, l, hcs, h2⟩ := texts_cells ht he hc hf
  exact ⟨A, c, l, slice_value ht hv hcs, h2⟩
end
end Go.Cu
namespace Go.Proofs.Ytnakbdgoaepehaa
open Go.RowKit Go.Cu
theorem put_first {q : Pt} {s : Nat} (hs : 1 ≤ s) (k x : Str) : (keys (q.put s k x).l)[0]? = some k := by
  show (keys (List.take s ((k, x) :: without k q.l)))[0]? = some k
  obtain ⟨t, rfl⟩ : ∃ t, s = t + 1 := ⟨s - 1, by omega⟩
  rfl
set_option maxRecDepth 20000 in
set_option maxHeartbeats 8000000 in
theorem cfull_walk {a : Int} {A : Option Addr} {c : Nat} {nm : List Str} (w : World) (hin : TextsIn w A nm) :
    Calls Try.prog 5 #[.int .i64 a, .slice A nm.length c] w fun x w' => x = .returned (.bool true) ∧ Below w.heap.size w w' := by
  obtain ⟨m, em, hm⟩ := u64_rem a 256 (by decide)
  simp only [Int.cast_ofNat_Int] at em
  obtain ⟨s, hs⟩ : ∃ s, s = 1 + m := ⟨_, rfl⟩
  have es : (1 : Int) + (m : Int) = (s : Int) := by omega
  have hs1 : 1 ≤ s := by omega
  have hs2 : s ≤ 256 := by omega
  have HIN := hid hin
  have HN := hid (show Calls Try.prog 18 #[.int .i64 2, .int .i64 s] w fun r w' => ∃ g, r = .returned (.tuple #[ptrV g, .int .i64 0]) ∧ St w [CacheA 0 g s [p0, p0]] w' from cnew_st (m := 2) (s := s) (St.start w) (by decide) (by decide) hs1 hs2)
  have HC := hid (fun X (M : List Atm) (hX : St w M X) => caches_st hX)
  clear hin hs
  go_enter Try.func5, Try.ntmps5
  go_wp2_with (first | (go_at_call 18; (with_reducible refine HN.out.mono ?_); rintro r w1 ⟨g, rfl, hs1⟩; have H1 := hid hs1; clear hs1) | (go_at_call 19; (with_reducible refine (HC.out _ _ H1.out).mono ?_); rintro r w2 ⟨rfl, hs⟩; have H2 := hid hs; clear hs))
  clear em es HN HC
  go_loopw [7, 8] (fun kv _ X => ∃ (k : Nat) (q : Pt), k ≤ 300 ∧ kv = .int .i64 k ∧ Hid (q.Ok s) ∧ Hid (Short q) ∧ Hid (St w [CacheA k g s [p0, q]] X)) (fun kv _ _ => 300 - (intOf kv).toNat)
  case atStart => exact ⟨0, p0, Nat.zero_le _, rfl, hid (p0_ok s), hid p0_short, H2⟩
  case round =>
    clear H1 H2
    obtain ⟨k, q, hk, rfl, HOK, HSH, HS⟩ := hrel
    have k0 : (0 : Int) ≤ (k : Int) := by omega
    by_cases hk1 : k < nm.length
    · have f1 : (k : Int) < (nm.length : Int) := by omega
      by_cases hk2 : k < 300
      · have f2 : (k : Int) < 300 := by omega
        obtain ⟨x, hx⟩ : ∃ x, nm[k]? = some x := ⟨_, List.getElem?_eq_getElem hk1⟩
        obtain ⟨hxl, go, o, rfl, hgl, hc⟩ := HIN.out k x hx
        have HX := hid (show ∀ X M, St w M X → X.cell? ⟨go, o + k, none⟩ = some (.string (strB x)) from fun X M hX => (hX.below.cell (p := ⟨go, o + k, none⟩) hgl).trans hc)
        obtain ⟨q', hq'⟩ : ∃ q', q' = q.put s x [120] := ⟨_, rfl⟩
        have HOK2 := hid (show q'.Ok s by rw [hq']; exact HOK.out.put _ _)
        have HSH2 := hid (show Short q' by rw [hq']; exact HSH.out.put hxl (short_small (by decide)))
        have HPF := hid (show (keys q'.l)[0]? = some x by rw [hq']; exact put_first hs1 x [120])
        have HP := hid (show Calls Try.prog 20 #[ptrV g, .int .i64 1, .string (strB x), .string { data := #[120] }] wr fun r w' => r = .returned (.int .i64 0) ∧ St w [CacheA (k + 1) g s [p0, q']] w' from by
          rw [hq']
          exact cput_st (i := 1) (x := [120]) HS.out (by show 1 < 2; decide) HOK.out HSH.out hs2 (by omega) hxl (short_small (by decide)))
        have hfew : q'.l.length ≤ s := HOK2.out.few
        obtain ⟨n', hn'⟩ : ∃ n', n' = q'.l.length := ⟨_, rfl⟩
        have HNM := hid (fun X (hX : St w [CacheA (k + 1) g s [p0, q']] X) => show Calls Try.prog 21 #[ptrV g, .int .i64 1] X fun r w' => ∃ B d, r = .returned (.slice B n' d) ∧ St w [Row (.slice B n' d) 9 1 n' ((keys q'.l).map sv), CacheA (k + 1) g s [p0, q']] w' from by
          rw [hn']
          exact cnames_st (i := 1) hX (by show 1 < 2; decide) (by show q'.l.length ≤ 100000; omega))
        have HNZ := hid (fun X (M : List Atm) (hX : St w (CacheA (k + 1) g s [p0, q'] :: M) X) => show Calls Try.prog 21 #[ptrV g, .int .i64 0] X fun r w' => ∃ B d, r = .returned (.slice B 0 d) ∧ St w (Row (.slice B 0 d) 9 1 0 [] :: CacheA (k + 1) g s [p0, q'] :: M) w' from cnames_st (i := 0) hX (by show 0 < 2; decide) (by show 0 ≤ 100000; decide))
        rw [← hn'] at hfew
        have hn1 : 0 < n' := by
          rw [hn', ← keys_length]
          exact (List.getElem?_eq_some_iff.1 HPF.out).1
        have f4 : (n' : Int) ≤ (s : Int) := by omega
        have x0 := HX.out _ _ HS.out
        clear hx hc hxl hq' hn' HOK HSH
        go_upto_region 10 with (first | (go_at_call 20; (with_reducible refine HP.out.mono ?_); rintro r w3 ⟨rfl, hs3⟩; have H3 := hid hs3; clear hs3 x0) | (go_at_call 21; (with_reducible refine (HNM.out _ H3.out).mono ?_); rintro r w4 ⟨B, d, rfl, hs4⟩; have H4 := hid hs4; clear hs4))
        clear H3 HNM HP HS
        obtain ⟨gB, rfl, _⟩ := row_at (i := 0) (x := sv x) H4.out rfl (by rw [List.getElem?_map, HPF.out]; rfl)
        have HF := hid (show ∀ X, St w [Row (.slice (some ⟨gB, 0, none⟩) n' d) 9 1 n' ((keys q'.l).map sv), CacheA (k + 1) g s [p0, q']] X → X.cell? ⟨gB, 0, none⟩ = some (.string (strB x)) ∧ X.cell? ⟨go, o + k, none⟩ = some (.string (strB x)) from fun X hX => by
          obtain ⟨g9, e9, h9⟩ := row_at (i := 0) (x := sv x) hX rfl (by rw [List.getElem?_map, HPF.out]; rfl)
          cases e9
          exact ⟨h9, HX.out _ _ hX⟩)
        refine wp_region_ord [] [(0, 1), (1, 1), (2, 1), (3, 1), (4, 1), (5, 1), (6, 1), (7, 1), (8, 1), (9, 1), (10, 1), (11, 1), (12, 1), (13, 1), (14, 1), (15, 1), (16, 2), (17, 1), (18, 1), (19, 1)] (fun X => St w [Row (.slice (some ⟨gB, 0, none⟩) n' d) 9 1 n' ((keys q'.l).map sv), CacheA (k + 1) g s [p0, q']] X) (by kernel_rfl) (by kernel_rfl) (fun d _ c _ _ h => by cases d <;> exact h) (H4.out.turn (Below.drew (Below.refl _ _))) (fun X hXe hX => ?_)
        clear hXe H4
        have f5 : decide (s < n') = false := decide_eq_false (by omega)
        repeat (apply wpOrd_class; ((· first | (rw [List.getElem?_toArray, List.getElem?_cons_zero]; done) | (simp only [List.getElem?_toArray, List.getElem?_cons_succ, List.getElem?_cons_zero]; exact rfl))); (· exact rfl); intro K hK; apply Exists.intro; refine And.intro (fun X' hX' => ?_) ?_; (· obtain ⟨hq1, hq2⟩ := HF.out _ hX'; clear hX'; go_simp; (try go_bits); first | done | exact rfl | exact ⟨rfl, rfl⟩); go_simp; refine hK _ _ ?_; clear hK K)
        (apply wpOrd_comes; ((· first | (rw [List.getElem?_toArray, List.getElem?_cons_zero]; done) | (simp only [List.getElem?_toArray, List.getElem?_cons_succ, List.getElem?_cons_zero]; exact rfl))); intro N hN)
        go_wp2_with (go_at_call 21; (with_reducible refine (HNZ.out _ _ hX.at2).mono ?_); rintro r w5 ⟨B5, d5, rfl, hs5⟩; have H5 := hid hs5.drop.at2; clear hs5)
        refine hN _ _ (fun _ => H5.out) ?_
        clear hN N hX
        repeat (apply wpOrd_class; ((· first | (rw [List.getElem?_toArray, List.getElem?_cons_zero]; done) | (simp only [List.getElem?_toArray, List.getElem?_cons_succ, List.getElem?_cons_zero]; exact rfl))); (· exact rfl); intro K hK; apply Exists.intro; refine And.intro (fun X' hX' => ?_) ?_; (· obtain ⟨hq1, hq2⟩ := HF.out _ hX'; clear hX'; go_simp; (try go_bits); first | done | exact rfl | exact ⟨rfl, rfl⟩); go_simp; refine hK _ _ ?_; clear hK K)
        refine wpOrd_done ?_
        clear f5 HF
        go_wp2_with fail
        go_roundw
        case rel => exact ⟨k + 1, q', by omega, by go_num, HOK2, HSH2, hid H5.out.drop⟩
        case measure => simp [intOf]; omega
      · have f2 : ¬ (k : Int) < 300 := by omega
        go_wp2_with fail
        go_ret
        exact ⟨rfl, HS.out.below⟩
    · have f1 : ¬ (k : Int) < (nm.length : Int) := by omega
      go_wp2_with fail
      go_ret
      exact ⟨rfl, HS.out.below⟩
end Go.Proofs.Ytnakbdgoaepehaa
