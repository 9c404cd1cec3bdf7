/- ThiefSteals, walked (printed by gen_matchq.py). -/
import Derived.Test.YtlklfpbimoolbaaGreatMatchTail
import Derived.Test.YtlklfpbimoolbaaGreatThfAwake
import Derived.Deep.RegionWith
namespace Go.Proofs.YtlklfpbimoolbaaGreat
open Go.RowKit
set_option linter.unusedVariables false

/-- A number chosen by one element of an array. -/
theorem numA_any (w : World) (b off cp : Nat) (z n : Int) (hc : w.cell? ⟨b, off, none⟩ = some (.int .i64 z)) (hcp : 1 ≤ cp) (hn : n ≤ 9223372036854775807) (h1 : 1 ≤ n) :
    Calls Tryz.prog 22 #[.slice (some ⟨b, off, none⟩) 1 cp, .int .i64 0, .int .i64 n] w fun e w' => ∃ x : Int, e = .returned (.int .i64 x) ∧ (0 ≤ x ∧ x < n) ∧ Only [] w w' := by
  have hN : Ns w (.slice (some ⟨b, off, none⟩) 1 cp) [z] := by
    refine ⟨_, _, rfl, fun _ => ⟨b, off, rfl, fun j hj => ?_⟩, (fun e => by cases e), hcp⟩
    simp at hj
    subst hj
    simpa using hc
  have h := number_any w (.slice (some ⟨b, off, none⟩) 1 cp) [z] 0 n hN hn (by simp) (by omega)
  exact h.mono fun e w' ⟨h1', h2'⟩ => ⟨_, h1', numZ_bd _ _ h1, h2'⟩

theorem steals_end {w wx : World} {qb len : Nat} {x0 x1 x2 x3 : Int} (Z : wx.heap[qb]? = some (.cells #[.int .i64 0, .int .i64 0, .int .i64 0, .int .i64 0] 27 (0, 0))) (OC : Only [] w wx) (QS : w.heap.size ≤ qb) (h2 : 0 ≤ x2 ∧ x2 < (len : Int) + 3) (h3 : 0 ≤ x3 ∧ x3 < 7) (hl : len ≤ 1000) :
    ∃ (q : Nat) (qt qb_ qr qc : Int), Value.pointer (some ⟨qb, 0, none⟩) = .pointer (some ⟨q, 0, none⟩) ∧ ((((wx.setCell ⟨qb, 0, none⟩ (.int .i64 (x0 - 1))).setCell ⟨qb, 1, none⟩ (.int .i64 (x1 - 1))).setCell ⟨qb, 2, none⟩ (.int .i64 (x2 - 1))).setCell ⟨qb, 3, none⟩ (.int .i64 (x3 - 1))).heap[q]? = some (.cells #[.int .i64 qt, .int .i64 qb_, .int .i64 qr, .int .i64 qc] 27 (0, 0)) ∧
      Only [] w ((((wx.setCell ⟨qb, 0, none⟩ (.int .i64 (x0 - 1))).setCell ⟨qb, 1, none⟩ (.int .i64 (x1 - 1))).setCell ⟨qb, 2, none⟩ (.int .i64 (x2 - 1))).setCell ⟨qb, 3, none⟩ (.int .i64 (x3 - 1))) ∧ QOk ⟨qt, qb_, qr, qc⟩ ∧ w.heap.size ≤ q := by
  refine ⟨qb, x0 - 1, x1 - 1, x2 - 1, x3 - 1, rfl, ?_, (((OC.setCell (.inr QS) _).setCell (.inr QS) _).setCell (.inr QS) _).setCell (.inr QS) _, ⟨by simp only; omega, by simp only; omega⟩, QS⟩
  have e := blk_setCell (blk_setCell (blk_setCell (blk_setCell Z 0 (.int .i64 (x0 - 1))) 1 (.int .i64 (x1 - 1))) 2 (.int .i64 (x2 - 1))) 3 (.int .i64 (x3 - 1))
  simpa only [List.setIfInBounds_toArray, List.set_cons_zero, List.set_cons_succ] using e

set_option maxRecDepth 100000 in
set_option maxHeartbeats 16000000 in
theorem ThiefSteals_small (w : World) (ao : Option Addr) (cap : Nat) (xs : List Int) (hx : CellsAt w ao (xs.map (.int .u64))) (wx : ∀ z ∈ xs, (Lit.int .u64 z).wf = true) (hxl : xs.length ≤ 40) (a b c d : Int) (bo : Option Addr) (cb : Nat) (zs : List Int) (hz : CellsAt w bo (zs.map (.int .i64))) (lzc : zs.length ≤ cb) (hzl : zs.length ≤ 400) :
    Calls Tryz.prog 6 #[.slice ao xs.length cap, .agg #[.int .i64 a, .int .i64 b, .int .i64 c, .int .i64 d], .slice bo zs.length cb] w fun e w' => e = .returned (.bool true) ∧ Only [] w w' := by
  have HZL := Lib.hid (And.intro lzc hzl)
  have HZN := Lib.hid (blk_lt_of_ints hz)
  have HZ := Lib.hid hz
  obtain ⟨lz, hlz⟩ : ∃ lz, lz = zs.length := ⟨_, rfl⟩
  have HLZ := Lib.hid hlz
  rw [← hlz] at lzc ⊢
  obtain ⟨len, hlen⟩ : ∃ len, len = xs.length := ⟨_, rfl⟩
  rw [← hlz] at hzl
  have s0 : (w.alloc (.cells #[.int .i64 a, .int .i64 b, .int .i64 c, .int .i64 d] 23)).heap.size = w.heap.size + 1 := by simp
  have SH := Lib.hid (short_any ((w.alloc (.cells #[.int .i64 a, .int .i64 b, .int .i64 c, .int .i64 d] 23)).alloc (.cells #[.slice bo lz cb] 24)) none 0 0 (by omega) _ 24 (0, 0) [(bo, lz, cb)] 1 rfl (by omega) (blk_alloc_new _ _) (by simp; omega))
  rw [show (decide (∀ x ∈ [(bo, lz, cb)], x.2.1 ≤ 400) && decide (0 ≤ 400)) = true from by simp; omega, s0] at SH
  have HX := Lib.hid hx
  have HXL := Lib.hid hlen
  have SOK : Hid (bareMS xs).ok := Lib.hid (by intro z hz'; rw [bareMS_cells] at hz'; exact wf_u64 (wx z hz'))
  rw [← hlen] at hxl ⊢
  have hl40 : ¬ (40 : Int) < len := by omega
  have ob : Only [] w (((w.alloc (.cells #[.int .i64 a, .int .i64 b, .int .i64 c, .int .i64 d] 23)).alloc (.cells #[.slice bo lz cb] 24))) := ((Only.refl [] w).alloc _).alloc _
  have HB := Lib.hid (blk_alloc_new w (.cells #[.int .i64 a, .int .i64 b, .int .i64 c, .int .i64 d] 23))
  have HB2 := Lib.hid (((Only.refl [] (w.alloc (.cells #[.int .i64 a, .int .i64 b, .int .i64 c, .int .i64 d] 23))).alloc (.cells #[.slice bo lz cb] 24)).keep HB.out (by simp))
  have OB := Lib.hid ob
  clear hx wx hz s0 hlen hlz ob HB
  go_enter Tryz.func6, Tryz.ntmps6
  go_wp2_with fail
  refine SH.out.mono ?_; rintro e wS ⟨rfl, rfl⟩
  generalize hwS : ((w.alloc (.cells #[.int .i64 a, .int .i64 b, .int .i64 c, .int .i64 d] 23)).alloc (.cells #[.slice bo lz cb] 24)) = wS at HB2 OB ⊢
  clear SH hwS
  obtain ⟨pb, hpb⟩ : ∃ pb, pb = w.heap.size := ⟨_, rfl⟩
  rw [← hpb] at HB2
  have HPB := Lib.hid hpb
  have lpb := lt_of_blk HB2.out
  go_wp2_with fail
  rw [← HPB.out]
  clear hpb
  have p0 := cell_blk HB2.out 0
  have p1 := cell_blk HB2.out 1
  have p2 := cell_blk HB2.out 2
  have p3 := cell_blk HB2.out 3
  simp at p0 p1 p2 p3
  have PA0 : Hid (QAt wS pb a b c d) := Lib.hid ⟨p0, p1, p2, p3⟩
  have PA : Hid (QAt wS.drew pb a b c d) := Lib.hid ⟨p0, p1, p2, p3⟩
  have OC : Hid (Only [] w wS.drew) := Lib.hid OB.out.drew
  go_cut [8] (fun s8 wx => ∃ (qb : Nat) (qt qb_ qr qc : Int), s8 = .pointer (some ⟨qb, 0, none⟩) ∧ wx.heap[qb]? = some (.cells #[.int .i64 qt, .int .i64 qb_, .int .i64 qr, .int .i64 qc] 27 (0, 0)) ∧ Only [] w wx ∧ QOk ⟨qt, qb_, qr, qc⟩ ∧ w.heap.size ≤ qb)
  case first =>
    refine wp_region_held_drew (S := fun _ => True) (by kernel_rfl) trivial (fun hHeld => ?_)
    refine wpAnyH_take (i := 0) (v := ?_) rfl (by kernel_rfl) (by kernel_rfl) (by kernel_rfl) (fun _ _ _ h => h) (Or.inl ⟨by rfl, ?_⟩) (by assumption) ?_
    rotate_left
    · (intro w hSw; (try dsimp only at hSw); go_simp; try with_reducible rfl)
    try simp only [Act.put, List.setIfInBounds_toArray, List.set_cons_zero, List.set_cons_succ]
    refine wpAnyH_take (i := 1) (v := ?_) rfl (by kernel_rfl) (by kernel_rfl) (by kernel_rfl) (fun _ _ _ h => h) (Or.inl ⟨by rfl, ?_⟩) (by assumption) ?_
    rotate_left
    · (intro w hSw; (try dsimp only at hSw); go_simp; try with_reducible rfl)
    try simp only [Act.put, List.setIfInBounds_toArray, List.set_cons_zero, List.set_cons_succ]
    refine wpAnyH_take (i := 4) (v := ?_) rfl (by kernel_rfl) (by kernel_rfl) (by kernel_rfl) (fun _ _ _ h => h) (Or.inl ⟨by rfl, ?_⟩) (by assumption) ?_
    rotate_left
    · (intro w hSw; (try dsimp only at hSw); go_simp; try with_reducible rfl)
    try simp only [Act.put, List.setIfInBounds_toArray, List.set_cons_zero, List.set_cons_succ]
    refine wpAnyH_take (i := 5) (v := ?_) rfl (by kernel_rfl) (by kernel_rfl) (by kernel_rfl) (fun _ _ _ h => h) (Or.inl ⟨by rfl, ?_⟩) (by assumption) ?_
    rotate_left
    · (intro w hSw; (try dsimp only at hSw); go_simp; try with_reducible rfl)
    try simp only [Act.put, List.setIfInBounds_toArray, List.set_cons_zero, List.set_cons_succ]
    refine wpAnyH_take (i := 8) (v := ?_) rfl (by kernel_rfl) (by kernel_rfl) (by kernel_rfl) (fun _ _ _ h => h) (Or.inl ⟨by rfl, ?_⟩) (by assumption) ?_
    rotate_left
    · (intro w hSw; (try dsimp only at hSw); go_simp; try with_reducible rfl)
    try simp only [Act.put, List.setIfInBounds_toArray, List.set_cons_zero, List.set_cons_succ]
    refine wpAnyH_take (i := 9) (v := ?_) rfl (by kernel_rfl) (by kernel_rfl) (by kernel_rfl) (fun _ _ _ h => h) (Or.inl ⟨by rfl, ?_⟩) (by assumption) ?_
    rotate_left
    · (intro w hSw; (try dsimp only at hSw); go_simp; try with_reducible rfl)
    try simp only [Act.put, List.setIfInBounds_toArray, List.set_cons_zero, List.set_cons_succ]
    refine wpAnyH_take (i := 12) (v := ?_) rfl (by kernel_rfl) (by kernel_rfl) (by kernel_rfl) (fun _ _ _ h => h) (Or.inl ⟨by rfl, ?_⟩) (by assumption) ?_
    rotate_left
    · (intro w hSw; (try dsimp only at hSw); go_simp; try with_reducible rfl)
    try simp only [Act.put, List.setIfInBounds_toArray, List.set_cons_zero, List.set_cons_succ]
    refine wpAnyH_ready (rs := [2, 16]) (by kernel_rfl) (by simp) ?_
    refine AllReadyH.cons rfl (fun K hK => ?_) (AllReadyH.cons rfl (fun K hK => ?_) AllReadyH.nil)
    · go_simp
      refine (numA_any _ pb 0 4 _ _ PA.out.1 (by omega) (by omega) (by omega)).mono ?_; rintro e wn0 ⟨x0, rfl, hx0, on⟩
      have ex0 : IntKind.i64.wrap (x0 - 1) = x0 - 1 := IntWalk.i64_in _ (by omega)
      have OC := Lib.hid (OC.out.then0 on)
      have PA := Lib.hid (PA.out.keep on)
      clear on
      refine hK.out _ _ trivial (fun hHeld => ?_)
      clear hK K
      try simp only [Act.put, List.setIfInBounds_toArray, List.set_cons_zero, List.set_cons_succ]
      refine wpAnyH_take (i := 3) (v := ?_) rfl (by kernel_rfl) (by kernel_rfl) (by kernel_rfl) (fun _ _ _ h => h) (Or.inl ⟨by rfl, ?_⟩) (by assumption) ?_
      rotate_left
      · (intro w hSw; (try dsimp only at hSw); go_simp; try with_reducible rfl)
      try simp only [Act.put, List.setIfInBounds_toArray, List.set_cons_zero, List.set_cons_succ]
      refine wpAnyH_ready (rs := [6, 16]) (by kernel_rfl) (by simp) ?_
      refine AllReadyH.cons rfl (fun K hK => ?_) (AllReadyH.cons rfl (fun K hK => ?_) AllReadyH.nil)
      · go_simp
        refine (numA_any _ pb 1 3 _ _ PA.out.2.1 (by omega) (by omega) (by omega)).mono ?_; rintro e wn1 ⟨x1, rfl, hx1, on⟩
        have ex1 : IntKind.i64.wrap (x1 - 1) = x1 - 1 := IntWalk.i64_in _ (by omega)
        have OC := Lib.hid (OC.out.then0 on)
        have PA := Lib.hid (PA.out.keep on)
        clear on
        refine hK.out _ _ trivial (fun hHeld => ?_)
        clear hK K
        try simp only [Act.put, List.setIfInBounds_toArray, List.set_cons_zero, List.set_cons_succ]
        refine wpAnyH_take (i := 7) (v := ?_) rfl (by kernel_rfl) (by kernel_rfl) (by kernel_rfl) (fun _ _ _ h => h) (Or.inl ⟨by rfl, ?_⟩) (by assumption) ?_
        rotate_left
        · (intro w hSw; (try dsimp only at hSw); go_simp; try with_reducible rfl)
        try simp only [Act.put, List.setIfInBounds_toArray, List.set_cons_zero, List.set_cons_succ]
        refine wpAnyH_ready (rs := [10, 16]) (by kernel_rfl) (by simp) ?_
        refine AllReadyH.cons rfl (fun K hK => ?_) (AllReadyH.cons rfl (fun K hK => ?_) AllReadyH.nil)
        · go_simp
          refine (numA_any _ pb 2 2 _ _ PA.out.2.2.1 (by omega) (by omega) (by omega)).mono ?_; rintro e wn2 ⟨x2, rfl, hx2, on⟩
          have ex2 : IntKind.i64.wrap (x2 - 1) = x2 - 1 := IntWalk.i64_in _ (by omega)
          have OC := Lib.hid (OC.out.then0 on)
          have PA := Lib.hid (PA.out.keep on)
          clear on
          refine hK.out _ _ trivial (fun hHeld => ?_)
          clear hK K
          try simp only [Act.put, List.setIfInBounds_toArray, List.set_cons_zero, List.set_cons_succ]
          refine wpAnyH_take (i := 11) (v := ?_) rfl (by kernel_rfl) (by kernel_rfl) (by kernel_rfl) (fun _ _ _ h => h) (Or.inl ⟨by rfl, ?_⟩) (by assumption) ?_
          rotate_left
          · (intro w hSw; (try dsimp only at hSw); go_simp; try with_reducible rfl)
          try simp only [Act.put, List.setIfInBounds_toArray, List.set_cons_zero, List.set_cons_succ]
          refine wpAnyH_ready (rs := [13, 16]) (by kernel_rfl) (by simp) ?_
          refine AllReadyH.cons rfl (fun K hK => ?_) (AllReadyH.cons rfl (fun K hK => ?_) AllReadyH.nil)
          · go_simp
            refine (numA_any _ pb 3 1 _ _ PA.out.2.2.2 (by omega) (by omega) (by omega)).mono ?_; rintro e wn3 ⟨x3, rfl, hx3, on⟩
            have ex3 : IntKind.i64.wrap (x3 - 1) = x3 - 1 := IntWalk.i64_in _ (by omega)
            have OC := Lib.hid (OC.out.then0 on)
            have PA := Lib.hid (PA.out.keep on)
            clear on
            refine hK.out _ _ trivial (fun hHeld => ?_)
            clear hK K
            try simp only [Act.put, List.setIfInBounds_toArray, List.set_cons_zero, List.set_cons_succ]
            refine wpAnyH_take (i := 14) (v := ?_) rfl (by kernel_rfl) (by kernel_rfl) (by kernel_rfl) (fun _ _ _ h => h) (Or.inl ⟨by rfl, ?_⟩) (by assumption) ?_
            rotate_left
            · (intro w hSw; (try dsimp only at hSw); go_simp; try with_reducible rfl)
            try simp only [Act.put, List.setIfInBounds_toArray, List.set_cons_zero, List.set_cons_succ]
            refine wpAnyH_take (i := 15) (v := ?_) rfl (by kernel_rfl) (by kernel_rfl) (by kernel_rfl) (fun _ _ _ h => h) (Or.inl ⟨by rfl, ?_⟩) (by assumption) ?_
            rotate_left
            · (intro w hSw; (try dsimp only at hSw); go_simp; try with_reducible rfl)
            try simp only [Act.put, List.setIfInBounds_toArray, List.set_cons_zero, List.set_cons_succ]
            refine wpAnyH_ready (rs := [16]) (by kernel_rfl) (by simp) ?_
            refine AllReadyH.cons rfl (fun K hK => ?_) AllReadyH.nil
            go_simp
            obtain ⟨wa, hwa⟩ : ∃ wa, wa = wn3.alloc (.cells #[.int .i64 0, .int .i64 0, .int .i64 0, .int .i64 0] 27) := ⟨_, rfl⟩
            obtain ⟨qb, hqb⟩ : ∃ qb, qb = wn3.heap.size := ⟨_, rfl⟩
            have OCB := Lib.hid OC.out.size
            have Z := Lib.hid (blk_alloc_new wn3 (.cells #[.int .i64 0, .int .i64 0, .int .i64 0, .int .i64 0] 27))
            have OC := Lib.hid (OC.out.alloc (.cells #[.int .i64 0, .int .i64 0, .int .i64 0, .int .i64 0] 27))
            have PA := Lib.hid (PA.out.keep ((Only.refl [] wn3).alloc (.cells #[.int .i64 0, .int .i64 0, .int .i64 0, .int .i64 0] 27)))
            have QS := Lib.hid (show w.heap.size ≤ qb from by rw [hqb]; exact OCB.out)
            rw [← hwa, ← hqb] at Z
            rw [← hwa] at OC PA
            first | rw [← hwa, ← hqb] | rw [← hwa]
            refine hK.out _ _ trivial (fun hHeld => ?_)
            clear hK K hwa hqb
            try simp only [Act.put, List.setIfInBounds_toArray, List.set_cons_zero, List.set_cons_succ]
            have z0 := cell_blk Z.out 0
            have z1 := cell_blk Z.out 1
            have z2 := cell_blk Z.out 2
            have z3 := cell_blk Z.out 3
            have y0 := free_blk Z.out 0
            have y1 := free_blk Z.out 1
            have y2 := free_blk Z.out 2
            have y3 := free_blk Z.out 3
            simp at z0 z1 z2 z3
            refine wpAnyH_ready (rs := [17]) (by kernel_rfl) (by simp) ?_
            refine AllReadyH.cons rfl (fun K hK => ?_) AllReadyH.nil
            go_simp
            refine hK.out _ _ trivial (fun hHeld => ?_)
            clear hK K
            try simp only [Act.put, List.setIfInBounds_toArray, List.set_cons_zero, List.set_cons_succ]
            refine wpAnyH_done (by kernel_rfl) ?_ _
            clear z0 z1 z2 z3 y0 y1 y2 y3
            go_wp2_with fail
            go_meet
            exact steals_end Z.out OC.out QS.out hx2 hx3 (by omega)
          · go_simp
            obtain ⟨wa, hwa⟩ : ∃ wa, wa = wn2.alloc (.cells #[.int .i64 0, .int .i64 0, .int .i64 0, .int .i64 0] 27) := ⟨_, rfl⟩
            obtain ⟨qb, hqb⟩ : ∃ qb, qb = wn2.heap.size := ⟨_, rfl⟩
            have OCB := Lib.hid OC.out.size
            have Z := Lib.hid (blk_alloc_new wn2 (.cells #[.int .i64 0, .int .i64 0, .int .i64 0, .int .i64 0] 27))
            have OC := Lib.hid (OC.out.alloc (.cells #[.int .i64 0, .int .i64 0, .int .i64 0, .int .i64 0] 27))
            have PA := Lib.hid (PA.out.keep ((Only.refl [] wn2).alloc (.cells #[.int .i64 0, .int .i64 0, .int .i64 0, .int .i64 0] 27)))
            have QS := Lib.hid (show w.heap.size ≤ qb from by rw [hqb]; exact OCB.out)
            rw [← hwa, ← hqb] at Z
            rw [← hwa] at OC PA
            first | rw [← hwa, ← hqb] | rw [← hwa]
            refine hK.out _ _ trivial (fun hHeld => ?_)
            clear hK K hwa hqb
            try simp only [Act.put, List.setIfInBounds_toArray, List.set_cons_zero, List.set_cons_succ]
            refine wpAnyH_ready (rs := [13]) (by kernel_rfl) (by simp) ?_
            refine AllReadyH.cons rfl (fun K hK => ?_) AllReadyH.nil
            go_simp
            refine (numA_any _ pb 3 1 _ _ PA.out.2.2.2 (by omega) (by omega) (by omega)).mono ?_; rintro e wn3 ⟨x3, rfl, hx3, on⟩
            have ex3 : IntKind.i64.wrap (x3 - 1) = x3 - 1 := IntWalk.i64_in _ (by omega)
            have OC := Lib.hid (OC.out.then0 on)
            have PA := Lib.hid (PA.out.keep on)
            have Z := Lib.hid (on.keep Z.out (by simp))
            clear on
            refine hK.out _ _ trivial (fun hHeld => ?_)
            clear hK K
            try simp only [Act.put, List.setIfInBounds_toArray, List.set_cons_zero, List.set_cons_succ]
            refine wpAnyH_take (i := 14) (v := ?_) rfl (by kernel_rfl) (by kernel_rfl) (by kernel_rfl) (fun _ _ _ h => h) (Or.inl ⟨by rfl, ?_⟩) (by assumption) ?_
            rotate_left
            · (intro w hSw; (try dsimp only at hSw); go_simp; try with_reducible rfl)
            try simp only [Act.put, List.setIfInBounds_toArray, List.set_cons_zero, List.set_cons_succ]
            refine wpAnyH_take (i := 15) (v := ?_) rfl (by kernel_rfl) (by kernel_rfl) (by kernel_rfl) (fun _ _ _ h => h) (Or.inl ⟨by rfl, ?_⟩) (by assumption) ?_
            rotate_left
            · (intro w hSw; (try dsimp only at hSw); go_simp; try with_reducible rfl)
            try simp only [Act.put, List.setIfInBounds_toArray, List.set_cons_zero, List.set_cons_succ]
            have z0 := cell_blk Z.out 0
            have z1 := cell_blk Z.out 1
            have z2 := cell_blk Z.out 2
            have z3 := cell_blk Z.out 3
            have y0 := free_blk Z.out 0
            have y1 := free_blk Z.out 1
            have y2 := free_blk Z.out 2
            have y3 := free_blk Z.out 3
            simp at z0 z1 z2 z3
            refine wpAnyH_ready (rs := [17]) (by kernel_rfl) (by simp) ?_
            refine AllReadyH.cons rfl (fun K hK => ?_) AllReadyH.nil
            go_simp
            refine hK.out _ _ trivial (fun hHeld => ?_)
            clear hK K
            try simp only [Act.put, List.setIfInBounds_toArray, List.set_cons_zero, List.set_cons_succ]
            refine wpAnyH_done (by kernel_rfl) ?_ _
            clear z0 z1 z2 z3 y0 y1 y2 y3
            go_wp2_with fail
            go_meet
            exact steals_end Z.out OC.out QS.out hx2 hx3 (by omega)
        · go_simp
          obtain ⟨wa, hwa⟩ : ∃ wa, wa = wn1.alloc (.cells #[.int .i64 0, .int .i64 0, .int .i64 0, .int .i64 0] 27) := ⟨_, rfl⟩
          obtain ⟨qb, hqb⟩ : ∃ qb, qb = wn1.heap.size := ⟨_, rfl⟩
          have OCB := Lib.hid OC.out.size
          have Z := Lib.hid (blk_alloc_new wn1 (.cells #[.int .i64 0, .int .i64 0, .int .i64 0, .int .i64 0] 27))
          have OC := Lib.hid (OC.out.alloc (.cells #[.int .i64 0, .int .i64 0, .int .i64 0, .int .i64 0] 27))
          have PA := Lib.hid (PA.out.keep ((Only.refl [] wn1).alloc (.cells #[.int .i64 0, .int .i64 0, .int .i64 0, .int .i64 0] 27)))
          have QS := Lib.hid (show w.heap.size ≤ qb from by rw [hqb]; exact OCB.out)
          rw [← hwa, ← hqb] at Z
          rw [← hwa] at OC PA
          first | rw [← hwa, ← hqb] | rw [← hwa]
          refine hK.out _ _ trivial (fun hHeld => ?_)
          clear hK K hwa hqb
          try simp only [Act.put, List.setIfInBounds_toArray, List.set_cons_zero, List.set_cons_succ]
          refine wpAnyH_ready (rs := [10]) (by kernel_rfl) (by simp) ?_
          refine AllReadyH.cons rfl (fun K hK => ?_) AllReadyH.nil
          go_simp
          refine (numA_any _ pb 2 2 _ _ PA.out.2.2.1 (by omega) (by omega) (by omega)).mono ?_; rintro e wn2 ⟨x2, rfl, hx2, on⟩
          have ex2 : IntKind.i64.wrap (x2 - 1) = x2 - 1 := IntWalk.i64_in _ (by omega)
          have OC := Lib.hid (OC.out.then0 on)
          have PA := Lib.hid (PA.out.keep on)
          have Z := Lib.hid (on.keep Z.out (by simp))
          clear on
          refine hK.out _ _ trivial (fun hHeld => ?_)
          clear hK K
          try simp only [Act.put, List.setIfInBounds_toArray, List.set_cons_zero, List.set_cons_succ]
          refine wpAnyH_take (i := 11) (v := ?_) rfl (by kernel_rfl) (by kernel_rfl) (by kernel_rfl) (fun _ _ _ h => h) (Or.inl ⟨by rfl, ?_⟩) (by assumption) ?_
          rotate_left
          · (intro w hSw; (try dsimp only at hSw); go_simp; try with_reducible rfl)
          try simp only [Act.put, List.setIfInBounds_toArray, List.set_cons_zero, List.set_cons_succ]
          refine wpAnyH_ready (rs := [13]) (by kernel_rfl) (by simp) ?_
          refine AllReadyH.cons rfl (fun K hK => ?_) AllReadyH.nil
          go_simp
          refine (numA_any _ pb 3 1 _ _ PA.out.2.2.2 (by omega) (by omega) (by omega)).mono ?_; rintro e wn3 ⟨x3, rfl, hx3, on⟩
          have ex3 : IntKind.i64.wrap (x3 - 1) = x3 - 1 := IntWalk.i64_in _ (by omega)
          have OC := Lib.hid (OC.out.then0 on)
          have PA := Lib.hid (PA.out.keep on)
          have Z := Lib.hid (on.keep Z.out (by simp))
          clear on
          refine hK.out _ _ trivial (fun hHeld => ?_)
          clear hK K
          try simp only [Act.put, List.setIfInBounds_toArray, List.set_cons_zero, List.set_cons_succ]
          refine wpAnyH_take (i := 14) (v := ?_) rfl (by kernel_rfl) (by kernel_rfl) (by kernel_rfl) (fun _ _ _ h => h) (Or.inl ⟨by rfl, ?_⟩) (by assumption) ?_
          rotate_left
          · (intro w hSw; (try dsimp only at hSw); go_simp; try with_reducible rfl)
          try simp only [Act.put, List.setIfInBounds_toArray, List.set_cons_zero, List.set_cons_succ]
          refine wpAnyH_take (i := 15) (v := ?_) rfl (by kernel_rfl) (by kernel_rfl) (by kernel_rfl) (fun _ _ _ h => h) (Or.inl ⟨by rfl, ?_⟩) (by assumption) ?_
          rotate_left
          · (intro w hSw; (try dsimp only at hSw); go_simp; try with_reducible rfl)
          try simp only [Act.put, List.setIfInBounds_toArray, List.set_cons_zero, List.set_cons_succ]
          have z0 := cell_blk Z.out 0
          have z1 := cell_blk Z.out 1
          have z2 := cell_blk Z.out 2
          have z3 := cell_blk Z.out 3
          have y0 := free_blk Z.out 0
          have y1 := free_blk Z.out 1
          have y2 := free_blk Z.out 2
          have y3 := free_blk Z.out 3
          simp at z0 z1 z2 z3
          refine wpAnyH_ready (rs := [17]) (by kernel_rfl) (by simp) ?_
          refine AllReadyH.cons rfl (fun K hK => ?_) AllReadyH.nil
          go_simp
          refine hK.out _ _ trivial (fun hHeld => ?_)
          clear hK K
          try simp only [Act.put, List.setIfInBounds_toArray, List.set_cons_zero, List.set_cons_succ]
          refine wpAnyH_done (by kernel_rfl) ?_ _
          clear z0 z1 z2 z3 y0 y1 y2 y3
          go_wp2_with fail
          go_meet
          exact steals_end Z.out OC.out QS.out hx2 hx3 (by omega)
      · go_simp
        obtain ⟨wa, hwa⟩ : ∃ wa, wa = wn0.alloc (.cells #[.int .i64 0, .int .i64 0, .int .i64 0, .int .i64 0] 27) := ⟨_, rfl⟩
        obtain ⟨qb, hqb⟩ : ∃ qb, qb = wn0.heap.size := ⟨_, rfl⟩
        have OCB := Lib.hid OC.out.size
        have Z := Lib.hid (blk_alloc_new wn0 (.cells #[.int .i64 0, .int .i64 0, .int .i64 0, .int .i64 0] 27))
        have OC := Lib.hid (OC.out.alloc (.cells #[.int .i64 0, .int .i64 0, .int .i64 0, .int .i64 0] 27))
        have PA := Lib.hid (PA.out.keep ((Only.refl [] wn0).alloc (.cells #[.int .i64 0, .int .i64 0, .int .i64 0, .int .i64 0] 27)))
        have QS := Lib.hid (show w.heap.size ≤ qb from by rw [hqb]; exact OCB.out)
        rw [← hwa, ← hqb] at Z
        rw [← hwa] at OC PA
        first | rw [← hwa, ← hqb] | rw [← hwa]
        refine hK.out _ _ trivial (fun hHeld => ?_)
        clear hK K hwa hqb
        try simp only [Act.put, List.setIfInBounds_toArray, List.set_cons_zero, List.set_cons_succ]
        refine wpAnyH_ready (rs := [6]) (by kernel_rfl) (by simp) ?_
        refine AllReadyH.cons rfl (fun K hK => ?_) AllReadyH.nil
        go_simp
        refine (numA_any _ pb 1 3 _ _ PA.out.2.1 (by omega) (by omega) (by omega)).mono ?_; rintro e wn1 ⟨x1, rfl, hx1, on⟩
        have ex1 : IntKind.i64.wrap (x1 - 1) = x1 - 1 := IntWalk.i64_in _ (by omega)
        have OC := Lib.hid (OC.out.then0 on)
        have PA := Lib.hid (PA.out.keep on)
        have Z := Lib.hid (on.keep Z.out (by simp))
        clear on
        refine hK.out _ _ trivial (fun hHeld => ?_)
        clear hK K
        try simp only [Act.put, List.setIfInBounds_toArray, List.set_cons_zero, List.set_cons_succ]
        refine wpAnyH_take (i := 7) (v := ?_) rfl (by kernel_rfl) (by kernel_rfl) (by kernel_rfl) (fun _ _ _ h => h) (Or.inl ⟨by rfl, ?_⟩) (by assumption) ?_
        rotate_left
        · (intro w hSw; (try dsimp only at hSw); go_simp; try with_reducible rfl)
        try simp only [Act.put, List.setIfInBounds_toArray, List.set_cons_zero, List.set_cons_succ]
        refine wpAnyH_ready (rs := [10]) (by kernel_rfl) (by simp) ?_
        refine AllReadyH.cons rfl (fun K hK => ?_) AllReadyH.nil
        go_simp
        refine (numA_any _ pb 2 2 _ _ PA.out.2.2.1 (by omega) (by omega) (by omega)).mono ?_; rintro e wn2 ⟨x2, rfl, hx2, on⟩
        have ex2 : IntKind.i64.wrap (x2 - 1) = x2 - 1 := IntWalk.i64_in _ (by omega)
        have OC := Lib.hid (OC.out.then0 on)
        have PA := Lib.hid (PA.out.keep on)
        have Z := Lib.hid (on.keep Z.out (by simp))
        clear on
        refine hK.out _ _ trivial (fun hHeld => ?_)
        clear hK K
        try simp only [Act.put, List.setIfInBounds_toArray, List.set_cons_zero, List.set_cons_succ]
        refine wpAnyH_take (i := 11) (v := ?_) rfl (by kernel_rfl) (by kernel_rfl) (by kernel_rfl) (fun _ _ _ h => h) (Or.inl ⟨by rfl, ?_⟩) (by assumption) ?_
        rotate_left
        · (intro w hSw; (try dsimp only at hSw); go_simp; try with_reducible rfl)
        try simp only [Act.put, List.setIfInBounds_toArray, List.set_cons_zero, List.set_cons_succ]
        refine wpAnyH_ready (rs := [13]) (by kernel_rfl) (by simp) ?_
        refine AllReadyH.cons rfl (fun K hK => ?_) AllReadyH.nil
        go_simp
        refine (numA_any _ pb 3 1 _ _ PA.out.2.2.2 (by omega) (by omega) (by omega)).mono ?_; rintro e wn3 ⟨x3, rfl, hx3, on⟩
        have ex3 : IntKind.i64.wrap (x3 - 1) = x3 - 1 := IntWalk.i64_in _ (by omega)
        have OC := Lib.hid (OC.out.then0 on)
        have PA := Lib.hid (PA.out.keep on)
        have Z := Lib.hid (on.keep Z.out (by simp))
        clear on
        refine hK.out _ _ trivial (fun hHeld => ?_)
        clear hK K
        try simp only [Act.put, List.setIfInBounds_toArray, List.set_cons_zero, List.set_cons_succ]
        refine wpAnyH_take (i := 14) (v := ?_) rfl (by kernel_rfl) (by kernel_rfl) (by kernel_rfl) (fun _ _ _ h => h) (Or.inl ⟨by rfl, ?_⟩) (by assumption) ?_
        rotate_left
        · (intro w hSw; (try dsimp only at hSw); go_simp; try with_reducible rfl)
        try simp only [Act.put, List.setIfInBounds_toArray, List.set_cons_zero, List.set_cons_succ]
        refine wpAnyH_take (i := 15) (v := ?_) rfl (by kernel_rfl) (by kernel_rfl) (by kernel_rfl) (fun _ _ _ h => h) (Or.inl ⟨by rfl, ?_⟩) (by assumption) ?_
        rotate_left
        · (intro w hSw; (try dsimp only at hSw); go_simp; try with_reducible rfl)
        try simp only [Act.put, List.setIfInBounds_toArray, List.set_cons_zero, List.set_cons_succ]
        have z0 := cell_blk Z.out 0
        have z1 := cell_blk Z.out 1
        have z2 := cell_blk Z.out 2
        have z3 := cell_blk Z.out 3
        have y0 := free_blk Z.out 0
        have y1 := free_blk Z.out 1
        have y2 := free_blk Z.out 2
        have y3 := free_blk Z.out 3
        simp at z0 z1 z2 z3
        refine wpAnyH_ready (rs := [17]) (by kernel_rfl) (by simp) ?_
        refine AllReadyH.cons rfl (fun K hK => ?_) AllReadyH.nil
        go_simp
        refine hK.out _ _ trivial (fun hHeld => ?_)
        clear hK K
        try simp only [Act.put, List.setIfInBounds_toArray, List.set_cons_zero, List.set_cons_succ]
        refine wpAnyH_done (by kernel_rfl) ?_ _
        clear z0 z1 z2 z3 y0 y1 y2 y3
        go_wp2_with fail
        go_meet
        exact steals_end Z.out OC.out QS.out hx2 hx3 (by omega)
    · go_simp
      obtain ⟨wa, hwa⟩ : ∃ wa, wa = (wS.alloc (.cells #[.int .i64 0, .int .i64 0, .int .i64 0, .int .i64 0] 27)).drew := ⟨_, rfl⟩
      obtain ⟨qb, hqb⟩ : ∃ qb, qb = wS.heap.size := ⟨_, rfl⟩
      have OCB := Lib.hid OC.out.size
      have Z := Lib.hid (show (wS.alloc (.cells #[.int .i64 0, .int .i64 0, .int .i64 0, .int .i64 0] 27)).drew.heap[wS.heap.size]? = _ from blk_alloc_new wS (.cells #[.int .i64 0, .int .i64 0, .int .i64 0, .int .i64 0] 27))
      have OC := Lib.hid (show Only [] w (wS.alloc (.cells #[.int .i64 0, .int .i64 0, .int .i64 0, .int .i64 0] 27)).drew from (OB.out.alloc _).drew)
      have PA := Lib.hid (PA0.out.keep (((Only.refl [] wS).alloc (.cells #[.int .i64 0, .int .i64 0, .int .i64 0, .int .i64 0] 27)).drew))
      have QS := Lib.hid (show w.heap.size ≤ qb from by rw [hqb]; exact OCB.out)
      rw [← hwa, ← hqb] at Z
      rw [← hwa] at OC PA
      first | rw [← hwa, ← hqb] | rw [← hwa]
      refine hK.out _ _ trivial (fun hHeld => ?_)
      clear hK K hwa hqb
      try simp only [Act.put, List.setIfInBounds_toArray, List.set_cons_zero, List.set_cons_succ]
      refine wpAnyH_ready (rs := [2]) (by kernel_rfl) (by simp) ?_
      refine AllReadyH.cons rfl (fun K hK => ?_) AllReadyH.nil
      go_simp
      refine (numA_any _ pb 0 4 _ _ PA.out.1 (by omega) (by omega) (by omega)).mono ?_; rintro e wn0 ⟨x0, rfl, hx0, on⟩
      have ex0 : IntKind.i64.wrap (x0 - 1) = x0 - 1 := IntWalk.i64_in _ (by omega)
      have OC := Lib.hid (OC.out.then0 on)
      have PA := Lib.hid (PA.out.keep on)
      have Z := Lib.hid (on.keep Z.out (by simp))
      clear on
      refine hK.out _ _ trivial (fun hHeld => ?_)
      clear hK K
      try simp only [Act.put, List.setIfInBounds_toArray, List.set_cons_zero, List.set_cons_succ]
      refine wpAnyH_take (i := 3) (v := ?_) rfl (by kernel_rfl) (by kernel_rfl) (by kernel_rfl) (fun _ _ _ h => h) (Or.inl ⟨by rfl, ?_⟩) (by assumption) ?_
      rotate_left
      · (intro w hSw; (try dsimp only at hSw); go_simp; try with_reducible rfl)
      try simp only [Act.put, List.setIfInBounds_toArray, List.set_cons_zero, List.set_cons_succ]
      refine wpAnyH_ready (rs := [6]) (by kernel_rfl) (by simp) ?_
      refine AllReadyH.cons rfl (fun K hK => ?_) AllReadyH.nil
      go_simp
      refine (numA_any _ pb 1 3 _ _ PA.out.2.1 (by omega) (by omega) (by omega)).mono ?_; rintro e wn1 ⟨x1, rfl, hx1, on⟩
      have ex1 : IntKind.i64.wrap (x1 - 1) = x1 - 1 := IntWalk.i64_in _ (by omega)
      have OC := Lib.hid (OC.out.then0 on)
      have PA := Lib.hid (PA.out.keep on)
      have Z := Lib.hid (on.keep Z.out (by simp))
      clear on
      refine hK.out _ _ trivial (fun hHeld => ?_)
      clear hK K
      try simp only [Act.put, List.setIfInBounds_toArray, List.set_cons_zero, List.set_cons_succ]
      refine wpAnyH_take (i := 7) (v := ?_) rfl (by kernel_rfl) (by kernel_rfl) (by kernel_rfl) (fun _ _ _ h => h) (Or.inl ⟨by rfl, ?_⟩) (by assumption) ?_
      rotate_left
      · (intro w hSw; (try dsimp only at hSw); go_simp; try with_reducible rfl)
      try simp only [Act.put, List.setIfInBounds_toArray, List.set_cons_zero, List.set_cons_succ]
      refine wpAnyH_ready (rs := [10]) (by kernel_rfl) (by simp) ?_
      refine AllReadyH.cons rfl (fun K hK => ?_) AllReadyH.nil
      go_simp
      refine (numA_any _ pb 2 2 _ _ PA.out.2.2.1 (by omega) (by omega) (by omega)).mono ?_; rintro e wn2 ⟨x2, rfl, hx2, on⟩
      have ex2 : IntKind.i64.wrap (x2 - 1) = x2 - 1 := IntWalk.i64_in _ (by omega)
      have OC := Lib.hid (OC.out.then0 on)
      have PA := Lib.hid (PA.out.keep on)
      have Z := Lib.hid (on.keep Z.out (by simp))
      clear on
      refine hK.out _ _ trivial (fun hHeld => ?_)
      clear hK K
      try simp only [Act.put, List.setIfInBounds_toArray, List.set_cons_zero, List.set_cons_succ]
      refine wpAnyH_take (i := 11) (v := ?_) rfl (by kernel_rfl) (by kernel_rfl) (by kernel_rfl) (fun _ _ _ h => h) (Or.inl ⟨by rfl, ?_⟩) (by assumption) ?_
      rotate_left
      · (intro w hSw; (try dsimp only at hSw); go_simp; try with_reducible rfl)
      try simp only [Act.put, List.setIfInBounds_toArray, List.set_cons_zero, List.set_cons_succ]
      refine wpAnyH_ready (rs := [13]) (by kernel_rfl) (by simp) ?_
      refine AllReadyH.cons rfl (fun K hK => ?_) AllReadyH.nil
      go_simp
      refine (numA_any _ pb 3 1 _ _ PA.out.2.2.2 (by omega) (by omega) (by omega)).mono ?_; rintro e wn3 ⟨x3, rfl, hx3, on⟩
      have ex3 : IntKind.i64.wrap (x3 - 1) = x3 - 1 := IntWalk.i64_in _ (by omega)
      have OC := Lib.hid (OC.out.then0 on)
      have PA := Lib.hid (PA.out.keep on)
      have Z := Lib.hid (on.keep Z.out (by simp))
      clear on
      refine hK.out _ _ trivial (fun hHeld => ?_)
      clear hK K
      try simp only [Act.put, List.setIfInBounds_toArray, List.set_cons_zero, List.set_cons_succ]
      refine wpAnyH_take (i := 14) (v := ?_) rfl (by kernel_rfl) (by kernel_rfl) (by kernel_rfl) (fun _ _ _ h => h) (Or.inl ⟨by rfl, ?_⟩) (by assumption) ?_
      rotate_left
      · (intro w hSw; (try dsimp only at hSw); go_simp; try with_reducible rfl)
      try simp only [Act.put, List.setIfInBounds_toArray, List.set_cons_zero, List.set_cons_succ]
      refine wpAnyH_take (i := 15) (v := ?_) rfl (by kernel_rfl) (by kernel_rfl) (by kernel_rfl) (fun _ _ _ h => h) (Or.inl ⟨by rfl, ?_⟩) (by assumption) ?_
      rotate_left
      · (intro w hSw; (try dsimp only at hSw); go_simp; try with_reducible rfl)
      try simp only [Act.put, List.setIfInBounds_toArray, List.set_cons_zero, List.set_cons_succ]
      have z0 := cell_blk Z.out 0
      have z1 := cell_blk Z.out 1
      have z2 := cell_blk Z.out 2
      have z3 := cell_blk Z.out 3
      have y0 := free_blk Z.out 0
      have y1 := free_blk Z.out 1
      have y2 := free_blk Z.out 2
      have y3 := free_blk Z.out 3
      simp at z0 z1 z2 z3
      refine wpAnyH_ready (rs := [17]) (by kernel_rfl) (by simp) ?_
      refine AllReadyH.cons rfl (fun K hK => ?_) AllReadyH.nil
      go_simp
      refine hK.out _ _ trivial (fun hHeld => ?_)
      clear hK K
      try simp only [Act.put, List.setIfInBounds_toArray, List.set_cons_zero, List.set_cons_succ]
      refine wpAnyH_done (by kernel_rfl) ?_ _
      clear z0 z1 z2 z3 y0 y1 y2 y3
      go_wp2_with fail
      go_meet
      exact steals_end Z.out OC.out QS.out hx2 hx3 (by omega)
  case rest =>
    obtain ⟨qb, qt, qb_, qr, qc, rfl, hq, ho, hQ, hqs⟩ := hcut
    have OQ := Lib.hid ho
    have QBq := Lib.hid hq
    have HQ := Lib.hid hQ
    have qlt := lt_of_blk hq
    have SML : Hid ((bareMS xs).count ≤ 1000 ∧ (bareMS xs).cells.length ≤ 1000) := Lib.hid (by rw [bareMS_count, bareMS_cells, ← HXL.out]; omega)
    clear hq ho hQ PA PA0 OC HB2 OB HPB p0 p1 p2 p3
    go_wp2_with fail
    refine (bare_any wc ao cap len xs (HX.out.keep0 OQ.out) HXL.out (by omega)).mono ?_
    rintro e w3 ⟨en, m, bc, ck, r, rc, rfl, o3, b3, ⟨l1, l2, l3, l4, l5, l6⟩, l7, l8, l9, l10, l11, l12⟩
    have O3 := Lib.hid (OQ.out.then0 o3)
    have B3 := Lib.hid b3
    have C3 := Lib.hid (QAt.of (o3.keep (QBq.out) (by simp)))
    have s3 := o3.size
    have EN : Hid (EnvNew w w3 qb en m bc ck r rc) := Lib.hid ⟨by omega, by omega, by omega, by omega, by omega⟩
    clear o3 b3 l1 l2 l3 l4 l5 l6 l7 l8 l9 l10 l11 l12 s3
    have O0 := Lib.hid ((Only.refl [] w3).drew)
    go_wp2_with fail
    go_region_held3 (fun w' => w'.cell? ⟨qb, 0, none⟩ = some (.int .i64 qt) ∧ w'.cell? ⟨qb, 1, none⟩ = some (.int .i64 qb_) ∧ w'.cell? ⟨qb, 2, none⟩ = some (.int .i64 qr) ∧ w'.cell? ⟨qb, 3, none⟩ = some (.int .i64 qc))
      (first | exact QAt.keep C3.out O0.out | exact QAt.keep C3.out OA.out | exact QAt.keep C3.out OP.out | exact QAt.keep C3.out OM.out | exact QAt.keep CF.out (Only.refl _ _))
      ((first
        | (go_at_call 23; refine (awake10_any _).mono ?_; rintro e wA ⟨rfl, oA⟩; have OA := Lib.hid (O0.out.then0 oA); clear oA)
        | (go_at_call 24; refine (steal_new _ ⟨qt, qb_, qr, qc⟩).mono ?_; rintro e wP ⟨p, rfl, oP, hP, lp1, lp2⟩; have OP := Lib.hid (OA.out.then0 oP); have HP := Lib.hid (And.intro hP (And.intro lp1 lp2)); clear oP hP lp1 lp2)
        | (go_at_call 18; refine (make_any _ { newSteal ⟨qt, qb_, qr, qc⟩ with line := 0 } (by simp [newSteal]) rfl rfl).mono ?_; rintro e wM ⟨y, fb, rfl, oM, hM, ly, lf, hyf, ly2, lf2⟩; have OM := Lib.hid (OP.out.then0 oM); have HM := Lib.hid (And.intro oM (And.intro hM (And.intro ly (And.intro lf (And.intro hyf (And.intro ly2 lf2)))))); clear oM hM ly lf hyf ly2 lf2)
        | (go_at_call 16
           have gp : w3.heap.size ≤ p := by have := HP.out.2.1; have := OA.out.size; have : w3.drew.heap.size = w3.heap.size := rfl; omega
           have gy : w3.heap.size ≤ y := by have := HM.out.2.2.1; have := OP.out.size; omega
           have gf : w3.heap.size ≤ fb := by have := HM.out.2.2.2.1; have := OP.out.size; omega
           have I := matIn_new (k := newSteal ⟨qt, qb_, qr, qc⟩) B3.out EN.out.hi.1 EN.out.hi.2 OP.out HP.out.1 gp HP.out.2.2 HM.out.1 HM.out.2.1 HM.out.2.2.1 HM.out.2.2.2.1 HM.out.2.2.2.2.1 HM.out.2.2.2.2.2.1 HM.out.2.2.2.2.2.2
           have MT := Lib.hid (match_any _ en m bc ck r rc p y fb (newSteal ⟨qt, qb_, qr, qc⟩) (bareMS xs) bo cb zs 20 (HZ.out.keep0 (O3.out.then0 OM.out)) HZL.out.1 (EN.out.fr HZN.out gp gy gf) (by have := HZL.out.2; omega) (by omega) (by simp [newSteal]) rfl (QOk.steal HQ.out) ⟨rfl, rfl⟩ SOK.out SML.out.1 SML.out.2 I.1 I.2.1 I.2.2)
           rw [← HLZ.out] at MT
           refine MT.out.mono ?_; rintro e wF ⟨rfl, oF⟩
           have OF := Lib.hid ((O3.out.then0 OM.out).trans oF (EN.out.bs gp gy gf))
           have CF := Lib.hid (QAt.keepS (QAt.keep C3.out OM.out) oF (EN.out.nq gp gy gf))
           clear I MT oF gp gy gf)))
    go_wp2_with fail
    go_ret
    exact ⟨rfl, OF.out⟩

set_option maxRecDepth 100000 in
theorem ThiefSteals_any (w : World) (ao : Option Addr) (cap : Nat) (xs : List Int) (hx : CellsAt w ao (xs.map (.int .u64))) (wx : ∀ z ∈ xs, (Lit.int .u64 z).wf = true) (lx : xs.length ≤ cap) (mx : cap ≤ maxLen) (ps : List Int) (hp : ps.length = 4) (wp : ∀ z ∈ ps, (Lit.int .i64 z).wf = true)
    (bo : Option Addr) (cb : Nat) (zs : List Int) (hz : CellsAt w bo (zs.map (.int .i64))) (wz : ∀ z ∈ zs, (Lit.int .i64 z).wf = true) (lz : zs.length ≤ cb) (mz : cb ≤ maxLen) :
    Calls Tryz.prog 6 #[.slice ao xs.length cap, .agg (ps.map (.int .i64)).toArray, .slice bo zs.length cb] w fun e w' => e = .returned (.bool true) ∧ Only [] w w' := by
  obtain ⟨a, b, c, d, rfl⟩ : ∃ a b c d, ps = [a, b, c, d] := by match ps, hp with | [a, b, c, d], _ => exact ⟨a, b, c, d, rfl⟩
  simp only [List.map_cons, List.map_nil]
  unfold maxLen at mx mz
  by_cases h1 : xs.length ≤ 40
  · by_cases h2 : zs.length ≤ 400
    · exact ThiefSteals_small w ao cap xs hx wx h1 a b c d bo cb zs hz lz h2
    · generalize zs.length = ln at lz h2 ⊢
      generalize xs.length = len at lx h1 ⊢
      have hl40 : ¬ (40 : Int) < len := by omega
      have s0 : (w.alloc (.cells #[.int .i64 a, .int .i64 b, .int .i64 c, .int .i64 d] 23)).heap.size = w.heap.size + 1 := by simp
      have SH := Lib.hid (short_any ((w.alloc (.cells #[.int .i64 a, .int .i64 b, .int .i64 c, .int .i64 d] 23)).alloc (.cells #[.slice bo ln cb] 24)) none 0 0 (by omega) _ 24 (0, 0) [(bo, ln, cb)] 1 rfl (by omega) (blk_alloc_new _ _) (by simp; omega))
      rw [show (decide (∀ x ∈ [(bo, ln, cb)], x.2.1 ≤ 400) && decide (0 ≤ 400)) = false from by simp; omega, s0] at SH
      clear hx wx hz wz s0
      go_enter Tryz.func6, Tryz.ntmps6
      go_wp2_with fail
      refine SH.out.mono ?_; rintro e wS ⟨rfl, rfl⟩
      go_wp2_with fail
      go_ret
      exact ⟨rfl, ((Only.refl _ _).alloc _).alloc _⟩
  · generalize xs.length = len at lx h1 ⊢
    have hl40 : (40 : Int) < len := by omega
    clear hx wx hz wz
    go_enter Tryz.func6, Tryz.ntmps6
    go_wp2_with fail
    go_ret
    exact ⟨rfl, (Only.refl _ _).alloc _⟩
end Go.Proofs.YtlklfpbimoolbaaGreat
