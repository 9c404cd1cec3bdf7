/- What the reference's Encode computes. -/
import Derived.Test.YtfhmphbfngdkeaaScriptEnc
import Derived.Deep.RegionLaw
import Derived.IntWalk
namespace Go.Proofs.Ytfhmphbfngdkeaa
open Go.RowKit
set_option linter.unusedVariables false

set_option maxRecDepth 100000 in
set_option maxHeartbeats 800000 in
theorem refEnc_at (w : World) (ao : Option Addr) (cap n : Nat) (l : List E) (h : CellsAt w ao (flat l)) (hn : n = l.length) (hn2 : n ≤ 60000) :
    Calls Try.prog 23 #[.slice ao n cap] w (EncPost w l) := by
  have HN := Lib.hid hn
  have H := Lib.hid h
  have hd : decide (65536 < (n : Int)) = false := decide_eq_false (by omega)
  have hd2 : decide (65536 < n) = false := decide_eq_false (by omega)
  clear h hn
  go_enter Try.func23, Try.ntmps23
  go_wp2_with fail
  clear hd hd2
  go_loopw [4, 5] (fun o i wr => ∃ k : Nat, k ≤ n ∧ i = .int .i64 k ∧ wr.ownsRow w.heap.size 5 1 o (2 * k) ((encB (l.take k)).map (.int .u8)) ∧ (l.take k).all validB = true ∧ Only [] w wr) (fun _ i _ => n - (intOf i).toNat)
  case atStart => exact ⟨0, Nat.zero_le _, rfl, World.ownsRow_nil _ _ _ _, rfl, Only.refl _ _⟩
  case round =>
    obtain ⟨k, hk, rfl, hown, hall, hP⟩ := hrel
    have W := Lib.hid hown
    have P := Lib.hid hP
    have HA := Lib.hid hall
    by_cases hlt : k < n
    · obtain ⟨b, off, rfl, hc⟩ := cells_entry H.out (by have := HN.out; omega)
      have c0 := hP.keepCell (hc k (by have := HN.out; omega)).1 (by simp)
      have c1 := hP.keepCell (hc k (by have := HN.out; omega)).2 (by simp)
      have HE := Lib.hid (encB_step (l := l) (k := k) (by have := HN.out; omega))
      have HS := Lib.hid (all_step (l := l) (k := k) (by have := HN.out; omega))
      have HF : Hid (validB (l.getD k (0, 0)) = false → l.all validB = false) := Lib.hid (all_false (by have := HN.out; omega))
      obtain ⟨e, he⟩ : ∃ e, e = l.getD k (0, 0) := ⟨_, rfl⟩
      rw [← he] at c0 c1 HE HS HF
      clear hc he hP hown hall
      obtain ⟨a1, a2⟩ := e
      simp only at c0 c1 HE
      obtain ⟨r, hr⟩ : ∃ r, r = validB (a1, a2) := ⟨_, rfl⟩
      have HR := Lib.hid hr
      cases r with
      | false =>
        clear hr
        go_wp2_with fail
        refine (refValid_any a1 a2 _).mono ?_; rintro e w1 ⟨rfl, o1⟩
        rw [← HR.out]
        have O1 := Lib.hid (P.out.then0 (o1))
        clear o1
        go_wp2_with fail
        go_ret2
        exact ⟨O1.out, .inr ⟨HF.out HR.out.symm, rfl⟩⟩
      | true =>
        obtain ⟨b1, b2, b3, b4⟩ := valid_bd hr.symm
        clear hr
        go_wp2_with fail
        refine (refValid_any a1 a2 _).mono ?_; rintro e w1 ⟨rfl, o1⟩
        rw [← HR.out]
        have c2 := o1.keepCell c0 (by simp)
        have c3 := o1.keepCell c1 (by simp)
        have Q1 : Hid (Only [] wr w1) := Lib.hid (o1)
        have O1 := Lib.hid (P.out.then0 Q1.out)
        have hs1 := Q1.out.size
        have hs0 := P.out.size
        clear o1
        go_wp2_with fail
        go_region_law ((refine step_append_by _ rfl (.tmp 21) (.tmp 34) rfl w.heap.size u4 (2 * k) (encB (l.take k)) (by simp [Act.eval]) (owns_keep W.out (Q1.out.drew.alloc _)) ⟨w1.heap.size, 0, none⟩ 2 [IntKind.u8.wrap a1, IntKind.u8.wrap a2] (by simp [Act.eval]) (cells_new8 [IntKind.u8.wrap a1, IntKind.u8.wrap a2] (blk_alloc_new w1 _)) (by simp; omega) (by simp; omega) ?_
                        intro v' w2 hown2 hgrow hnil
                        have P2 := Lib.hid ((O1.out.drew.alloc (.cells #[.int .u8 (IntKind.u8.wrap a1), .int .u8 (IntKind.u8.wrap a2)] 5)).grown hgrow (fun q hq => .inr (W.out.lt q hq).1))
                        have W2 : Hid (w2.ownsRow w.heap.size 5 1 v' (2 * (k + 1)) ((encB (l.take (k + 1))).map (.int .u8))) := Lib.hid (by rw [HE.out]; rw [IntWalk.u8_in a1 ⟨by omega, by omega⟩, IntWalk.u8_in a2 ⟨by omega, by omega⟩] at hown2; exact hown2)
                        clear hown2 hgrow hnil))
        all_goals
          go_wp2_with fail
          go_roundw
          case rel => exact ⟨k + 1, by omega, by go_num, W2.out, by rw [HS.out, HA.out, ← HR.out]; rfl, P2.out⟩
          case measure => simp [intOf]; omega
    · obtain rfl : k = n := by omega
      clear hown hall hP
      go_wp2_with fail
      go_ret2
      have e := HN.out
      refine ⟨P.out, .inl ⟨?_, _, rfl, ?_⟩⟩
      · have := HA.out; rwa [e, List.take_length] at this
      · have := W.out; rw [e, List.take_length] at this; exact this

end Go.Proofs.Ytfhmphbfngdkeaa
