/- The sum of parts. -/
import Derived.Test.YtnakbdgoaepehaaDoorShaSum
namespace Go.Cu
open Go Go.RowKit
/-- Parts that lie in memory wherever L holds. -/
def PartsIn (W0 : World) (L : List Atm) (A : Option Addr) (ps : List (List UInt8)) : Prop := ∀ i b, ps[i]? = some b → ∃ g o B cb, A = some ⟨g, o, none⟩ ∧ b.length ≤ cb ∧ cb ≤ maxLen ∧ ∀ X, St W0 L X → X.cell? ⟨g, o + i, none⟩ = some (.slice B b.length cb) ∧ BytesIn X B b
theorem take_flat_le (ps : List (List UInt8)) (i : Nat) : (ps.take i).flatten.length ≤ ps.flatten.length := by
  have h : ps.flatten = (ps.take i).flatten ++ (ps.drop i).flatten := by rw [← List.flatten_append, List.take_append_drop]
  rw [h, List.length_append]; omega
theorem take_flat_step {ps : List (List UInt8)} {i : Nat} {b : List UInt8} (h : ps[i]? = some b) : (ps.take i).flatten ++ b = (ps.take (i + 1)).flatten := by
  rw [List.take_add_one, h, List.flatten_append]
  simp
end Go.Cu
namespace Go.Proofs.YtnakbdgoaepehaaDoor
open Go.RowKit Go.Cu
section
variable {W0 W : World} {L : List Atm}
set_option maxRecDepth 20000 in
set_option maxHeartbeats 8000000 in
theorem sha_st (h : St W0 L W) (hG : Glob W0) {A : Option Addr} {c : Nat} {ps : List (List UInt8)} (hp : PartsIn W0 L A ps) (hps : ps.length ≤ 1000000) (hm : ps.flatten.length ≤ 1000000000000) :
    Calls Tryd.prog 16 #[.slice A ps.length c] W fun x w' => x = .returned (.agg (bv (sumL ps.flatten))) ∧ St W0 L w' := by
  have HH := hid h
  have HP := hid hp
  have HN := hid (fun X (M : List Atm) (hX : St W0 M X) => hnew_st hX hG)
  have HW := hid (fun X (i : Nat) (b : List UInt8) (hi : ps[i]? = some b) (go g : Nat) (A1 : Option Addr) (c1 : Nat) (B : Option Addr) (cb : Nat) (h1 : b.length ≤ cb) (h2 : cb ≤ maxLen) (h3 : ∀ X, St W0 L X → BytesIn X B b) (hX : St W0 (Hashed g A1 c1 (ps.take i).flatten (Blk go (bv (List.replicate 32 0)) 23 :: L)) X) =>
    (hwrite_st hX hG (B := B) (cb := cb) (b := b) (fun Y hY => h3 Y hY.drop) h1 h2 (by
      have := take_flat_le ps (i + 1)
      rw [← take_flat_step hi, List.length_append] at this
      omega)))
  have HS := hid (fun X (go g : Nat) (A1 : Option Addr) (c1 : Nat) (hX : St W0 (Hashed g A1 c1 ps.flatten (Blk go (bv (List.replicate 32 0)) 23 :: L)) X) => hsum_st hX hG hm)
  have HSL := hid (show (bv (sumL ps.flatten)).size = 32 by rw [bv_size]; exact sumL_len _)
  have HZ32 := hid (show (bv (List.replicate 32 0)).size = 32 by rw [bv_size, List.length_replicate])
  clear h hG hp hm
  go_enter Tryd.func16, Tryd.ntmps16
  go_wp2_with (first | (refine wpList_alloc 23 rfl rfl (.agg (bv (List.replicate 32 0))) zero54s ?_; intro go W1 h1 hl1 hg1 hW1; have H1 := hid (HH.out.newBlk hW1 hg1 h1); clear h1 hl1 hg1 hW1) | (go_at_call 38; (with_reducible refine (HN.out _ _ H1.out).mono ?_); rintro x W2 ⟨g, rfl, h2⟩; have H2 := hid h2; clear h2))
  go_loopw [5, 9] (fun _ k X => ∃ (i : Nat) (A1 : Option Addr) (c1 : Nat), i ≤ ps.length ∧ k = .int .i64 i ∧ Hid (St W0 (Hashed g A1 c1 (ps.take i).flatten (Blk go (bv (List.replicate 32 0)) 23 :: L)) X)) (fun _ k _ => ps.length - (intOf k).toNat)
  case atStart => exact ⟨0, none, 0, Nat.zero_le _, rfl, H2⟩
  case round =>
    clear H1 H2
    obtain ⟨i, A1, c1, hi, rfl, HR⟩ := hrel
    by_cases hlt : i < ps.length
    · have e1 : (i : Int) < (ps.length : Int) := by omega
      have e0 : (0 : Int) ≤ (i : Int) := by omega
      have HE := hid (List.getElem?_eq_getElem hlt)
      obtain ⟨b, hb⟩ : ∃ b, ps[i]? = some b := ⟨_, HE.out⟩
      have HB := hid hb
      obtain ⟨ga, oa, B, cb, rfl, hc1, hc2, hX3⟩ := HP.out i b hb
      have cx := (hX3 _ HR.out.drop.drop.drop).1
      have HX3 := hid (fun X hX => (hX3 X hX).2)
      clear hb hX3
      go_wp2_with (go_at_call 39; (with_reducible refine (HW.out _ i b HB.out go g A1 c1 B cb hc1 hc2 HX3.out HR.out).mono ?_); rintro x W4 ⟨rfl, A4, c4, h4⟩; rw [take_flat_step HB.out] at h4; have H4 := hid h4; clear h4)
      go_roundw
      case rel => exact ⟨i + 1, A4, c4, by omega, by go_num, H4⟩
      case measure => simp [intOf]; omega
    · have e1 : ¬ (i : Int) < (ps.length : Int) := by omega
      obtain rfl : i = ps.length := by omega
      rw [List.take_length] at HR
      go_wp2_with (first | (go_at_call 40; (with_reducible refine (HS.out _ go g A1 c1 HR.out).mono ?_); rintro x W5 ⟨rfl, h5⟩; have H5 := hid h5.drop.drop; clear h5) | (refine wpList_store_box 23 _ _ rfl go rfl rfl (bv (sumL ps.flatten)) rfl 32 size54s HSL.out (bv_one _) 23 _ H5.out.blk HZ32.out ?_; intro W6 hB6 hT6 hs6; have H6 := hid (H5.out.put hB6 hT6)))
      exact bodyPost_ret (results_cell rfl _ _ _ go 23 (bv _) (0, 0) rfl hB6 Tryd.underlying23 (by rw [HSL.out]; exact size54s)) rfl ⟨rfl, H6.out.drop⟩
end
end Go.Proofs.YtnakbdgoaepehaaDoor
