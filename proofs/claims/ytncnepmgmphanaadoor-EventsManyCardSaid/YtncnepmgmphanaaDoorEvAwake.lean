/- The sanity check of chapter 7, walked. No condition beside the library's variables. -/
import Derived.Test.YtncnepmgmphanaaDoorEvParse
namespace Go.Proofs.YtncnepmgmphanaaDoor
open Go.RowKit
set_option linter.unusedVariables false

theorem fmt_awake : fmtRes [⟨5, 0, 3, 0, 0⟩] = ([115, 116, 97, 114, 116, 32, 48, 32, 51, 10], 0) := by
  have h1 : validB ⟨5, 0, 3, 0, 0⟩ = true := by decide
  have e0 : Lib.itoa 0 = [48] := by unfold Lib.itoa; rw [if_neg (by omega), Lib.decDigits]; rfl
  have e3 : Lib.itoa 3 = [51] := by unfold Lib.itoa; rw [if_neg (by omega), Lib.decDigits]; rfl
  have hl : lineB ⟨5, 0, 3, 0, 0⟩ = [115, 116, 97, 114, 116, 32, 48, 32, 51, 10] := by
    have hf : formAt 4 = ⟨[115, 116, 97, 114, 116], true, false, false⟩ := rfl
    simp [lineB, lineTo, segB, flAt, usAt, hf, e0, e3]
  simp [fmtRes, h1, fmtB, hl]
theorem parse_awake : parseB [112, 97, 114, 107, 32, 49] = ([], 1, 4) := by
  have hc : (Lib.cut [112, 97, 114, 107, 32, 49] [10]).2.2 = false := by decide
  unfold parseB
  rw [if_neg (by decide), parseR_succ, if_neg (by decide), hc]
  rfl

set_option maxRecDepth 100000 in
set_option maxHeartbeats 1000000 in
theorem awake_any (w : World) (hL : LibAt w) : Calls Tryd.prog 5 #[] w fun e w' => e = .returned (.bool true) ∧ Only [] w w' := by
  obtain ⟨W0, hW0⟩ : ∃ W0, W0 = w.alloc (.cells #[.int .i64 5, .int .i64 0, .int .i64 3, .int .i64 0, .int .i64 0] 23) := ⟨_, rfl⟩
  obtain ⟨b, hb⟩ : ∃ b, b = w.heap.size := ⟨_, rfl⟩
  have hB : W0.heap[b]? = some (.cells #[.int .i64 5, .int .i64 0, .int .i64 3, .int .i64 0, .int .i64 0] 23 (0, 0)) := by rw [hW0, hb]; exact blk_alloc_new _ _
  have O0 : Only [] w W0 := by rw [hW0]; exact (Only.refl _ _).alloc _
  have EL0 : EL W0 (.slice (some ⟨b, 0, none⟩) 1 1) [⟨5, 0, 3, 0, 0⟩] := ⟨_, 1, rfl, Nat.le_refl _, fun _ => ⟨b, 0, rfl, fun i hi => by
    obtain rfl : i = 0 := by simp at hi; omega
    exact ⟨cell_blk hB 0, cell_blk hB 1, cell_blk hB 2, cell_blk hB 3, cell_blk hB 4⟩⟩⟩
  have FA := format_any W0 (hL.keep0 O0) _ _ EL0 (by simp)
  rw [fmt_awake] at FA
  simp only at FA
  have FAH := Lib.hid FA
  have HW0 := Lib.hid hW0
  have HB := Lib.hid hb
  have O0H := Lib.hid O0
  have HL := Lib.hid hL
  clear hW0 hb hB O0 EL0 FA hL
  go_enter Tryd.func5, Tryd.ntmps5
  go_wp2_with fail
  rw [← HW0.out, ← HB.out]
  refine FAH.out.mono ?_; rintro e w1 ⟨rfl, o1⟩
  have O1 := Lib.hid (O0H.out.then0 o1)
  have PA := parse_any w1 (HL.out.keep0 O1.out) ⟨#[112, 97, 114, 107, 32, 49]⟩ (by decide)
  rw [show (⟨#[112, 97, 114, 107, 32, 49]⟩ : ByteArray).data.toList = [112, 97, 114, 107, 32, 49] from rfl, parse_awake] at PA
  have PAH := Lib.hid PA
  clear o1 PA
  go_wp2_with fail
  refine PAH.out.mono ?_; rintro e w2 ⟨o2, v, rfl, hv⟩
  have O2 := Lib.hid (O1.out.then0 o2)
  clear o2 hv
  go_wp2_with fail
  go_ret
  exact ⟨by rfl, O2.out⟩
end Go.Proofs.YtncnepmgmphanaaDoor
