/- The laws of chapter 3, walked: each returns true, and no block that was there has changed. -/
import Derived.Test.YtiijgnnejdcedaaClockWalks
namespace Go.Proofs.Ytiijgnnejdcedaa
open Go.RowKit

theorem clockAwake_any (w : World) : Calls Try.prog 13 #[] w fun e w' => e = .returned (.bool true) ∧ Only [] w w' := by
  have d1 : drw 7 4 = 3 := by decide
  have d2 : drw (-1) 4 = 3 := by decide
  go_enter Try.func13, Try.ntmps13
  go_wp2_with fail
  refine (clockNew_any _).mono ?_; rintro e w1 ⟨b, rfl, o1, l1, h1⟩
  go_wp2_with fail
  refine (clockSet_any _ _ _ _ _ h1).mono ?_; rintro e w2 ⟨rfl, o2, h2⟩
  go_wp2_with fail
  refine (clockDraw_any _ _ _ _ _ (by omega) h2).mono ?_; rintro e w3 ⟨rfl, rfl⟩
  go_wp2_with fail
  refine (clockDraw_any _ _ _ _ _ (by omega) h2).mono ?_; rintro e w3 ⟨rfl, rfl⟩
  go_wp2_with fail
  refine (clockSet_any _ _ _ _ _ h2).mono ?_; rintro e w3 ⟨rfl, o3, h3⟩
  go_wp2_with fail
  refine (clockTick_any _ _ _ _ h3 (by omega) (by omega)).mono ?_; rintro e w4 ⟨rfl, o4, h4⟩
  go_wp2_with fail
  refine (clockDraw_any _ _ _ _ _ (by omega) h4).mono ?_; rintro e w5 ⟨rfl, rfl⟩
  go_wp2_with fail
  refine (clockNow_any _ _ _ _ h4).mono ?_; rintro e w5 ⟨rfl, rfl⟩
  go_wp2_with fail
  go_ret
  exact ⟨rfl, ((o1.thenN o2 l1).thenN o3 l1).thenN o4 l1⟩

/-- The last test of ClockDraws. -/
theorem draws_diff {d n : Int} (h : 1 ≤ n) : d.tmod n - drw d n = 0 ∨ d.tmod n - drw d n = -n := by
  by_cases hm : d.tmod n < 0
  · rw [drw_neg h hm]; omega
  · rw [drw_nonneg h (by omega)]; omega
theorem draws_wrap {d n : Int} (h : 1 ≤ n) (hn : n ≤ 9223372036854775807) : wrap64 (d.tmod n - drw d n) = d.tmod n - drw d n := by
  unfold wrap64
  rcases draws_diff h (d := d) with h1 | h1 <;> omega
theorem draws_end {d n : Int} (h : 1 ≤ n) : (d.tmod n - drw d n).tmod n = 0 := by
  rcases draws_diff h (d := d) with h1 | h1 <;> rw [h1] <;> simp

theorem ClockDraws_any (d n m : Int) (w : World) (hn0 : n ≤ 9223372036854775807) (hm0 : m ≤ 9223372036854775807) :
    Calls Try.prog 4 #[.int .i64 d, .int .i64 n, .int .i64 m] w fun e w' => e = .returned (.bool true) ∧ Only [] w w' := by
  have hn := Lib.hid hn0
  have hm := Lib.hid hm0
  clear hn0 hm0
  have hb := Lib.hid (drw_bd d n)
  go_enter Try.func4, Try.ntmps4
  go_wp2_with fail
  refine (clockNew_any _).mono ?_; rintro e w1 ⟨b, rfl, o1, l1, h1⟩
  go_wp2_with fail
  refine (clockAwake_any _).mono ?_; rintro e w2 ⟨rfl, o2⟩
  have h2 := o2.keep h1 (by simp)
  go_wp2_with fail
  refine (clockSet_any _ _ _ _ _ h2).mono ?_; rintro e w3 ⟨rfl, o3, h3⟩
  go_wp2_with fail
  refine (clockDraw_any _ _ _ _ _ hn.out h3).mono ?_; rintro e w4 ⟨rfl, rfl⟩
  go_wp2_with fail
  refine (clockDraw_any _ _ _ _ _ hm.out h3).mono ?_; rintro e w4 ⟨rfl, rfl⟩
  go_wp2_with fail
  refine (clockDraw_any _ _ _ _ _ hn.out h3).mono ?_; rintro e w4 ⟨rfl, rfl⟩
  have o5 : Only [] w w3 := (o1.then0 o2).thenN o3 l1
  by_cases hlt : n < 1
  · have h0 : drw d n = 0 := drw_lt hlt
    go_wp2_with fail
    refine (refDraw_any _ _ _ hm.out).mono ?_; rintro e w4 ⟨rfl, rfl⟩
    go_wp2_with fail
    go_ret
    exact ⟨rfl, o5⟩
  · have h0 : 0 ≤ drw d n := hb.out.1
    have h1 : drw d n < n := hb.out.2 (by omega)
    have h2 := tmod_lo d (show 1 ≤ n by omega)
    have h3 := Int.tmod_lt_of_pos d (show 0 < n by omega)
    have h4 := Lib.hid hn.out
    have h5 : ((d.tmod n - drw d n).tmod n == 0) = true := by rw [draws_end (by omega)]; rfl
    have h6 : 0 < n := by omega
    have hw : wrap64 (d.tmod n - drw d n) = d.tmod n - drw d n := draws_wrap (by omega) hn.out
    go_wp2_with fail
    refine (refDraw_any _ _ _ hm.out).mono ?_; rintro e w4 ⟨rfl, rfl⟩
    go_wp2_with fail
    go_ret
    exact ⟨rfl, o5⟩

set_option maxHeartbeats 400000 in
theorem ClockPlays_any (ao : Option Addr) (cap : Nat) (zs : List Int) (n : Int) (w : World) (hn0 : n ≤ 9223372036854775807) (hao : CellsAt w ao (zs.map (.int .i64))) :
    Calls Try.prog 3 #[.slice ao zs.length cap, .int .i64 n] w fun e w' => e = .returned (.bool true) ∧ Only [] w w' := by
  have hn := Lib.hid hn0
  obtain ⟨len, hlen⟩ : ∃ len, len = zs.length := ⟨_, rfl⟩
  rw [← hlen]
  have hc := Lib.hid hao
  have hz : len ≤ zs.length := by omega
  clear hn0 hao hlen
  have d0 : drw 0 n = 0 := by unfold drw; split <;> simp
  go_enter Try.func3, Try.ntmps3
  go_wp2_with fail
  refine (clockNew_any _).mono ?_; rintro e w1 ⟨b, rfl, o1, l1, h1⟩
  go_wp2_with fail
  refine (clockAwake_any _).mono ?_; rintro e w2 ⟨rfl, o2⟩
  have h2 := o2.keep h1 (by simp)
  go_wp2_with fail
  refine (clockNow_any _ _ _ _ h2).mono ?_; rintro e w3 ⟨rfl, rfl⟩
  go_wp2_with fail
  refine (clockDraw_any _ _ _ _ _ hn.out h2).mono ?_; rintro e w4 ⟨rfl, rfl⟩
  go_wp2_with fail
  go_loopw [6, 7, 8] (fun nw dr i wr => ∃ (k : Nat) (t d : Int), k ≤ len ∧ k ≤ 100 ∧ i = .int .i64 k ∧ 0 ≤ t ∧ t ≤ k ∧ nw = .int .i64 t ∧ dr = .int .i64 d ∧ Only [] w wr ∧ wr.heap[b]? = some (clk t d))
    (fun _ _ i _ => len - (intOf i).toNat)
  case atStart => exact ⟨0, 0, 0, Nat.zero_le _, by omega, rfl, by omega, by omega, rfl, rfl, o1.then0 o2, h2⟩
  case round =>
    obtain ⟨k, t, d, hk, hk1, rfl, ht0, ht1, rfl, rfl, or, hr⟩ := hrel
    clear o1 h1 o2 h2
    by_cases hlt : k < len
    · obtain ⟨bl, off, rfl, hcl⟩ := hc.out.ints (by omega)
      have hc1 := Lib.hid hcl
      clear hcl
      have hcell : wr.cell? ⟨bl, off + k, none⟩ = some (.int .i64 (zs.getD k 0)) := or.keepCell (hc1.out k (by omega)) (by simp)
      have hkz : k < zs.length := by omega
      go_wp2_with fail
      · refine (clockTick_any _ _ _ _ hr ht0 (by omega)).mono ?_; rintro e w3 ⟨rfl, o3, h3⟩
        go_wp2_with fail
        refine (clockNow_any _ _ _ _ h3).mono ?_; rintro e w4 ⟨rfl, rfl⟩
        go_wp2_with fail
        refine (clockDraw_any _ _ _ _ _ hn.out h3).mono ?_; rintro e w4 ⟨rfl, rfl⟩
        go_wp2_with fail
        refine (refDraw_any _ _ _ hn.out).mono ?_; rintro e w4 ⟨rfl, rfl⟩
        go_wp2_with fail
        refine (clockDraw_any _ _ _ _ _ (by omega) h3).mono ?_; rintro e w4 ⟨rfl, rfl⟩
        go_wp2_with fail
        refine (refDraw_any _ _ _ (by omega)).mono ?_; rintro e w4 ⟨rfl, rfl⟩
        go_wp2_with fail
        go_roundw
        case rel => exact ⟨k + 1, t + 1, d, by omega, by omega, by go_num, by omega, by omega, rfl, rfl, or.thenN o3 l1, h3⟩
        case measure => simp [intOf]; omega
      · refine (clockSet_any _ _ _ _ _ hr).mono ?_; rintro e w3 ⟨rfl, o3, h3⟩
        have hcell3 : w3.cell? ⟨bl, off + k, none⟩ = some (.int .i64 (zs.getD k 0)) := (or.thenN o3 l1).keepCell (hc1.out k (by omega)) (by simp)
        go_wp2_with fail
        refine (clockNow_any _ _ _ _ h3).mono ?_; rintro e w4 ⟨rfl, rfl⟩
        go_wp2_with fail
        refine (clockDraw_any _ _ _ _ _ hn.out h3).mono ?_; rintro e w4 ⟨rfl, rfl⟩
        go_wp2_with fail
        refine (refDraw_any _ _ _ hn.out).mono ?_; rintro e w4 ⟨rfl, rfl⟩
        go_wp2_with fail
        refine (clockDraw_any _ _ _ _ _ (by omega) h3).mono ?_; rintro e w4 ⟨rfl, rfl⟩
        go_wp2_with fail
        refine (refDraw_any _ _ _ (by omega)).mono ?_; rintro e w4 ⟨rfl, rfl⟩
        go_wp2_with fail
        go_roundw
        case rel => exact ⟨k + 1, t, _, by omega, by omega, by go_num, by omega, by omega, rfl, rfl, or.thenN o3 l1, h3⟩
        case measure => simp [intOf]; omega
      · go_ret
        exact ⟨rfl, or⟩
    · go_wp2_with fail
      go_ret
      exact ⟨rfl, or⟩

set_option maxHeartbeats 400000 in
theorem ClockCopies_any (ti d ot : Int) (w : World) :
    Calls Try.prog 5 #[.int .i64 ti, .int .i64 d, .int .i64 ot] w fun e w' => e = .returned (.bool true) ∧ Only [] w w' := by
  have hb1 := drw_bd ti 50
  go_enter Try.func5, Try.ntmps5
  go_wp2_with fail
  refine (clockNew_any _).mono ?_; rintro e w1 ⟨b, rfl, o1, l1, h1⟩
  go_wp2_with fail
  refine (clockAwake_any _).mono ?_; rintro e w2 ⟨rfl, o2⟩
  have h2 := o2.keep h1 (by simp)
  go_wp2_with fail
  refine (refDraw_any _ _ _ (by omega)).mono ?_; rintro e w3 ⟨rfl, rfl⟩
  obtain ⟨T, hT⟩ : ∃ T, T = drw ti 50 := ⟨_, rfl⟩
  rw [← hT] at hb1 ⊢
  clear hT
  have hT0 := hb1.1
  have hT1 : T < 50 := hb1.2 (by omega)
  clear hb1
  go_wp2_with fail
  go_loopw [8] (fun i wr => ∃ (k : Int), 0 ≤ k ∧ k ≤ T ∧ i = .int .i64 k ∧ Only [] w wr ∧ wr.heap[b]? = some (clk k 0))
    (fun i _ => (T - intOf i).toNat)
  case atStart => exact ⟨0, by omega, by omega, rfl, o1.then0 o2, h2⟩
  case round =>
    obtain ⟨k, hk, hk1, rfl, or, hr⟩ := hrel
    clear o1 h1 o2 h2
    by_cases hlt : k < T
    · go_wp2_with fail
      refine (clockTick_any _ _ _ _ hr (by omega) (by omega)).mono ?_; rintro e w3 ⟨rfl, o3, h3⟩
      go_wp2_with fail
      go_roundw
      case rel => exact ⟨k + 1, by omega, by omega, rfl, or.thenN o3 l1, h3⟩
      case measure => simp [intOf]; omega
    · obtain rfl : k = T := by omega
      go_wp2_with fail
      refine (clockSet_any _ _ _ _ _ hr).mono ?_; rintro e w3 ⟨rfl, o3, h3⟩
      have p3 := or.thenN o3 l1
      clear or o3 hr
      go_wp2_with fail
      refine (clockCopy_any _ _ _ _ h3).mono ?_; rintro e w4 ⟨c, rfl, o4, l4, h4⟩
      have lb := lt_of_blk h3
      have hne : b ≠ c := by omega
      have h3' := o4.keep h3 (by simp)
      have lc : w.heap.size ≤ c := Nat.le_trans p3.size l4
      have p4 := p3.then0 o4
      clear p3 o4 h3
      go_wp2_with fail
      refine (clockNow_any _ _ _ _ h4).mono ?_; rintro e w5 ⟨rfl, rfl⟩
      go_wp2_with fail
      refine (clockDraw_any _ _ _ _ _ (by omega) h4).mono ?_; rintro e w5 ⟨rfl, rfl⟩
      go_wp2_with fail
      refine (clockDraw_any _ _ _ _ _ (by omega) h3').mono ?_; rintro e w5 ⟨rfl, rfl⟩
      go_wp2_with fail
      refine (clockTick_any _ _ _ _ h4 (by omega) (by omega)).mono ?_; rintro e w5 ⟨rfl, o5, h5⟩
      have h6 := o5.keep h3' (by simpa using hne)
      have p5 := p4.thenN o5 lc
      clear p4 o5 h3' h4
      go_wp2_with fail
      refine (clockSet_any _ _ _ _ _ h5).mono ?_; rintro e w6 ⟨rfl, o6, h7⟩
      have h8 := o6.keep h6 (by simpa using hne)
      have p6 := p5.thenN o6 lc
      clear p5 o6 h5 h6
      go_wp2_with fail
      refine (clockNow_any _ _ _ _ h8).mono ?_; rintro e w7 ⟨rfl, rfl⟩
      go_wp2_with fail
      refine (clockDraw_any _ _ _ _ _ (by omega) h8).mono ?_; rintro e w7 ⟨rfl, rfl⟩
      go_wp2_with fail
      refine (refDraw_any _ _ _ (by omega)).mono ?_; rintro e w7 ⟨rfl, rfl⟩
      go_wp2_with fail
      refine (clockTick_any _ _ _ _ h8 (by omega) (by omega)).mono ?_; rintro e w7 ⟨rfl, o7, h9⟩
      have h10 := o7.keep h7 (by simpa using hne.symm)
      have p7 := p6.thenN o7 l1
      clear p6 o7 h7 h8
      go_wp2_with fail
      refine (clockTick_any _ _ _ _ h9 (by omega) (by omega)).mono ?_; rintro e w8 ⟨rfl, o8, h11⟩
      have h12 := o8.keep h10 (by simpa using hne.symm)
      have p8 := p7.thenN o8 l1
      clear p7 o8 h9 h10
      go_wp2_with fail
      refine (clockNow_any _ _ _ _ h12).mono ?_; rintro e w9 ⟨rfl, rfl⟩
      go_wp2_with fail
      refine (clockNow_any _ _ _ _ h11).mono ?_; rintro e w9 ⟨rfl, rfl⟩
      go_wp2_with fail
      refine (clockDraw_any _ _ _ _ _ (by omega) h12).mono ?_; rintro e w9 ⟨rfl, rfl⟩
      go_wp2_with fail
      refine (refDraw_any _ _ _ (by omega)).mono ?_; rintro e w9 ⟨rfl, rfl⟩
      go_wp2_with fail
      go_ret
      exact ⟨rfl, p8⟩
end Go.Proofs.Ytiijgnnejdcedaa
