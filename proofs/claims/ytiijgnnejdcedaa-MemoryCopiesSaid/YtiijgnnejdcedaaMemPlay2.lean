/- MemoryPlays of chapter 2, walked. -/
import Derived.Test.YtiijgnnejdcedaaMemPlay
namespace Go.Proofs.Ytiijgnnejdcedaa
open Go.RowKit
set_option linter.unusedVariables false

def callKs : List IntKind := [.i64, .i64, .u64, .u64]

set_option maxHeartbeats 1000000 in
theorem MemoryPlays_any (w : World) (c : Int) (hc : -9223372036854775808 ≤ c ∧ c ≤ 9223372036854775807) (ao : Option Addr) (cap : Nat) (rows : List (List Int)) (hao : RowsAt w ao callKs rows)
    (hwf : ∀ r ∈ rows, ∀ (j : Nat) (k : IntKind), callKs[j]? = some k → (Lit.int k (r.getD j 0)).wf = true) :
    Calls Try.prog 10 #[.int .i64 c, .slice ao rows.length cap] w fun e w' => e = .returned (.bool true) ∧ Only [] w w' := by
  obtain ⟨C, n, hC, hC1, hC2, hn⟩ := plays_cells c
  obtain ⟨len, hlen⟩ : ∃ len, len = rows.length := ⟨_, rfl⟩
  rw [← hlen]
  have HA := Lib.hid hao
  have HL := Lib.hid hlen
  have HC2 := Lib.hid hC2
  have hlow : -9223372036854775808 ≤ C := by
    have h3 := tmod64_lo c
    rw [← hC]; split <;> omega
  have hbig : 64 < c ∧ c.tmod 64 = C ∨ ¬ 64 < c ∧ c = C := by
    rw [← hC]; split <;> simp [*]
  clear hao hlen hC hC2
  rcases hbig with ⟨hb, hCe⟩ | ⟨hb, rfl⟩
  all_goals
    go_enter Try.func10, Try.ntmps10
    go_wp2_with fail
    refine (memNew_any _ _ _ n HC2.out rfl (by omega)).mono ?_; rintro e w1 ⟨m, bc, rfl, o1, h1, l1, l2, l3⟩
    go_wp2_with fail
    refine (refNew_any _ _ _ n HC2.out rfl (by omega)).mono ?_; rintro e w2 ⟨a, cp, rc, rfl, o2, h2, l4, l5⟩
    have lm := h1.lt
    have hw3 := Pair.start h1 o2 h2 l3 l4 l5
    have HP := Lib.hid hw3
    have p2 := o1.then0 o2
    have lw2 := p2.size
    have P2 : Hid (Only [] w (w2.alloc _)) := Lib.hid (p2.alloc (.cells #[.slice (some a) n cp, .int .i64 0, .int .i64 0, .int .u64 0, .int .u64 0, .int .i64 0] 49))
    clear o1 o2 h1 h2 hw3 p2
    go_wp2_with fail
    refine (memAwake_any _).mono ?_; rintro e w3 ⟨rfl, o3⟩
    have HP3 := Lib.hid (HP.out.keep o3 (by simp) (by simp) (by simp) (by simp))
    have P3 := Lib.hid (P2.out.then0 o3)
    obtain ⟨b, hb2⟩ : ∃ b, b = w2.heap.size := ⟨_, rfl⟩
    have lb : w.heap.size ≤ b := by omega
    have lrc : w.heap.size ≤ rc := by omega
    rw [← hb2] at HP3 ⊢
    clear HP P2 o3 hb2
    go_wp2_with fail
    go_loopw [7] (fun i wr => ∃ (k : Nat) (s : MS), k ≤ len ∧ k ≤ 60 ∧ i = .int .i64 k ∧ Only [] w wr ∧ Pair wr m bc b rc s ∧ s.cells.length = n ∧ s.count ≤ k)
      (fun i _ => len - (intOf i).toNat)
    case atStart => exact ⟨0, _, Nat.zero_le _, by omega, rfl, P3.out, HP3.out, zeros_len n, by simp⟩
    case round =>
      obtain ⟨k, s, hk, hk60, rfl, hP, hPr, hsn, hcnt⟩ := hrel
      have HP := Lib.hid hPr
      have P := Lib.hid hP
      have HS := Lib.hid hsn
      clear hP hPr hsn HP3 P3
      by_cases hlt : k < len
      · by_cases h60 : k < 60
        · obtain ⟨bl, off, rfl, hcl⟩ := HA.out (by have := HL.out; omega)
          have hc0 := P.out.keepCell (hcl k (by have := HL.out; omega) 0 _ rfl) (by simp)
          have hc1 := P.out.keepCell (hcl k (by have := HL.out; omega) 1 _ rfl) (by simp)
          have hc2 := P.out.keepCell (hcl k (by have := HL.out; omega) 2 _ rfl) (by simp)
          have hc3 := P.out.keepCell (hcl k (by have := HL.out; omega) 3 _ rfl) (by simp)
          simp only [callKs, List.length_cons, List.length_nil, Nat.zero_add, Nat.reduceAdd, Nat.add_zero] at hc0 hc1 hc2 hc3
          generalize (rows.getD k []).getD 0 0 = x0 at hc0
          generalize (rows.getD k []).getD 1 0 = x1 at hc1
          generalize (rows.getD k []).getD 2 0 = x2 at hc2
          generalize (rows.getD k []).getD 3 0 = x3 at hc3
          clear hcl
          obtain ⟨q, hq⟩ : ∃ q : Nat, (k : Int) % 2 = q ∧ q < 2 := ⟨k % 2, by omega, by omega⟩
          have hbox : ∀ (y : Int), Only [] w (wr.alloc (.cells #[.int .i64 x0, .int .i64 y, .int .u64 x2, .int .u64 x3] 52)) := fun y => P.out.alloc _
          have hpair : ∀ (y : Int), Pair (wr.alloc (.cells #[.int .i64 x0, .int .i64 y, .int .u64 x2, .int .u64 x3] 52)) m bc b rc s := fun y => HP.out.keep ((Only.refl [] wr).alloc _) (by simp) (by simp) (by simp) (by simp)
          have HB := Lib.hid hbox
          have HQ := Lib.hid hpair
          clear hbox hpair
          go_wp2_with fail
          all_goals try (refine (refDraw_any _ _ _ (by omega)).mono ?_; rintro e w4 ⟨rfl, rfl⟩; go_wp2_with fail)
          all_goals
            refine (act_any _ m bc b rc s _ _ _ _ (HQ.out _) (by omega)).mono ?_
            rintro e w5 ⟨s', rfl, o5, h5, e5, n5⟩
            have P5 := Lib.hid ((HB.out _).trans o5 (by simp; omega))
            have Q5 := Lib.hid h5
            have E5 := Lib.hid e5
            clear o5 h5 e5
            go_wp2_with fail
            refine (same_any _ m bc b rc s' Q5.out (by have := HS.out; have := E5.out; omega)).mono ?_; rintro e w6 ⟨rfl, o6⟩
            have P6 := Lib.hid (P5.out.then0 o6)
            have Q6 := Lib.hid (Q5.out.keep o6 (by simp) (by simp) (by simp) (by simp))
            clear o6 Q5 P5
            go_wp2_with fail
            go_roundw
            case rel => exact ⟨k + 1, s', by omega, by omega, by go_num, P6.out, Q6.out, E5.out.trans HS.out, by omega⟩
            case measure => simp [intOf]; omega
        · go_wp2_with fail
          refine (same_any _ m bc b rc s HP.out (by have := HS.out; omega)).mono ?_; rintro e w5 ⟨rfl, o5⟩
          have P5 := Lib.hid (P.out.then0 o5)
          clear o5
          go_wp2_with fail
          go_ret
          exact ⟨rfl, P5.out⟩
      · go_wp2_with fail
        refine (same_any _ m bc b rc s HP.out (by have := HS.out; omega)).mono ?_; rintro e w5 ⟨rfl, o5⟩
        have P5 := Lib.hid (P.out.then0 o5)
        clear o5
        go_wp2_with fail
        go_ret
        exact ⟨rfl, P5.out⟩
end Go.Proofs.Ytiijgnnejdcedaa
