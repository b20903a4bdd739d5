/- A reader of bytes. -/
import Derived.Test.YtnakbdgoaepehaaDoorCodR
namespace Go.Proofs.YtnakbdgoaepehaaDoor
open Go.RowKit Go.Cu
theorem buildReader (g n c : Nat) (W : World) : (Instr.build 90 #[(0, .slice (some ⟨g, 0, none⟩) n c)]).run Tryd.prog W = .ok (.agg #[.slice (some ⟨g, 0, none⟩) n c, .int .i64 0]) W := by kernel_rfl
@[go_sem ↓] theorem bdktREADER (a : Act) (dst : Option Tmp) (ps : Array (Nat × Operand)) (ty : TypeId) (pos : String) (after : Array Edge) (guard : Option (Nat × Bool)) :
    execOp a.eval { dst, op := .build 90 ps, type := ty, pos, after, guard } = buildK 90 (ps.map fun (i, x) => (i, a.eval x)) := rfl
section
variable {W0 W : World} {L : List Atm}
set_option maxRecDepth 20000 in
set_option maxHeartbeats 4000000 in
theorem cread_st (h : St W0 L W) {B : Addr} {n cb : Nat} {b : List UInt8} (hn : n = b.length) (hb : ∀ X, St W0 L X → BytesIn X (some B) b) (hl : b.length ≤ 1000000) (h0 : b.length ≠ 0) :
    Calls Tryd.prog 17 #[.slice (some B) n cb] W fun x w' => ∃ g gb C, x = .returned (.pointer (some ⟨g, 0, none⟩)) ∧ b.length ≤ C ∧ C ≤ maxLen ∧ St W0 (Rdr 90 g gb C b 0 0 L) w' := by
  subst hn
  have HC := hid (bclone_st (cb := cb) h hb hl)
  have BB := fun g n c W => run_buildK (buildReader g n c W)
  clear h hb
  go_enter Tryd.func17, Tryd.ntmps17
  go_wp2_with (first | (go_at_call 37; (with_reducible refine HC.out.mono ?_); rintro x X5 ⟨D, d, rfl, h5⟩; have H5 := hid h5; clear h5; obtain ⟨gb, hgb⟩ := row_some H5.out h0; subst hgb) | (refine wpList_box rfl 90 _ rfl (.agg #[.slice (some ⟨gb, 0, none⟩) b.length d, .int .i64 0]) rfl ?_; intro g W2 h1 hl1 hg1 hW1; have H2 := hid (H5.out.newBlk hW1 hg1 h1); clear h1 hl1 hg1 hW1))
  obtain ⟨_, q1, q2⟩ := row_bytes H5.out rfl
  go_ret
  exact ⟨g, gb, d, rfl, q1, q2, H2.out⟩
end
end Go.Proofs.YtnakbdgoaepehaaDoor
