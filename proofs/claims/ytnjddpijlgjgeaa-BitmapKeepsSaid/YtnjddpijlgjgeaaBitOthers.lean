/- The law BitmapOthers of chapter 12, walked. (Written by wip/gen_bit2.py.) -/
import Derived.Test.YtnjddpijlgjgeaaBitAwake
namespace Go.Proofs.Ytnjddpijlgjgeaa
open Go.RowKit
set_option linter.unusedVariables false

theorem wrap_u64_nat (n : Nat) (h : n < 18446744073709551616) : IntKind.u64.wrap (n : Int) = n := by rw [IntKind.wrap_u64]; omega
theorem pow_lt64 {j : Nat} (h : j < 64) : 2 ^ j < 18446744073709551616 := by
  have := Nat.pow_lt_pow_right (a := 2) (by omega) h
  simpa using this

theorem power_any (i : Nat) (w : World) (hi : i < 64) :
    Calls Try.prog 48 #[.int .i64 i] w fun e w' => e = .returned (.int .u64 ((2 ^ i : Nat) : Int)) ∧ w = w' := by
  obtain ⟨p, hp⟩ : ∃ p, p = 2 ^ i := ⟨_, rfl⟩
  rw [← hp]
  have HP := Lib.hid hp
  clear hp
  go_enter Try.func48, Try.ntmps48
  go_wp2_with fail
  go_loop [0, 3] (fun t y => ∃ (j k y' : Nat), j + k = i ∧ t = .int .i64 j ∧ y = .int .u64 y' ∧ y' = 2 ^ k) (fun t _ => (intOf t).toNat)
  case atStart => exact ⟨i, 0, 1, by omega, rfl, rfl, rfl⟩
  case round =>
    obtain ⟨j, k, y, hjk, rfl, rfl, hy⟩ := hrel
    have HY := Lib.hid hy
    have HJ := Lib.hid hjk
    have hji : j ≤ i := by omega
    clear hy hjk
    by_cases hj : 0 < j
    · have e1 : IntKind.u64.wrap ((y : Int) * 2) = ((2 * y : Nat) : Int) := by
        have := pow_lt64 (j := k + 1) (by have := HJ.out; omega)
        rw [Nat.pow_succ, ← HY.out] at this
        rw [show (y : Int) * 2 = ((2 * y : Nat) : Int) by omega, wrap_u64_nat _ (by omega)]
      go_wp2_with fail
      go_round
      case rel => exact ⟨j - 1, k + 1, 2 * y, by have := HJ.out; omega, congrArg (Value.int .i64) (by omega), rfl, by rw [Nat.pow_succ, ← HY.out]; omega⟩
      case measure => simp [intOf]; omega
    · obtain rfl : j = 0 := by omega
      go_wp2_with fail
      go_ret
      refine ⟨ret_int ?_, rfl⟩
      rw [HP.out, HY.out, show k = i by have := HJ.out; omega]

theorem refMask_any (w : World) (b : Int) :
    Calls Try.prog 34 #[.int .i64 b] w fun e w' => e = .returned (.int .u64 (mask b)) ∧ w = w' := by
  by_cases h : b < 0
  · go_enter Try.func34, Try.ntmps34
    go_wp2
    go_ret
    exact ⟨by rw [show mask b = 0 from if_pos (.inl h)]; rfl, rfl⟩
  · by_cases h2 : 63 < b
    · go_enter Try.func34, Try.ntmps34
      go_wp2
      go_ret
      exact ⟨by rw [show mask b = 0 from if_pos (.inr h2)]; rfl, rfl⟩
    · obtain ⟨i, rfl⟩ : ∃ i : Nat, b = i := ⟨b.toNat, by omega⟩
      have hi : i < 64 := by omega
      have em : mask (i : Int) = ((2 ^ i : Nat) : Int) := by unfold mask; rw [if_neg (by omega), Int.toNat_natCast]
      have A := Lib.hid (power_any i w hi)
      rw [em]
      obtain ⟨p, hp⟩ : ∃ p, p = 2 ^ i := ⟨_, rfl⟩
      rw [← hp] at A ⊢
      clear em hp
      go_enter Try.func34, Try.ntmps34
      go_wp2_with fail
      refine A.out.mono ?_; rintro e w1 ⟨rfl, rfl⟩
      go_wp2_with fail
      go_ret
      exact ⟨rfl, rfl⟩

/-- Words as bit vectors. -/
def bv (x : Int) : BitVec 64 := BitVec.ofInt 64 x
theorem wrapU (v : BitVec 64) : IntKind.u64.wrap (v.toNat : Int) = (v.toNat : Int) := by
  rw [IntKind.wrap_u64]
  have := v.isLt
  omega
theorem bits_and (x y : Int) : bits .and .u64 x y = ((bv x &&& bv y).toNat : Int) := wrapU (bv x &&& bv y)
theorem bits_or (x y : Int) : bits .or .u64 x y = ((bv x ||| bv y).toNat : Int) := wrapU (bv x ||| bv y)
theorem bits_xor (x y : Int) : bits .xor .u64 x y = ((bv x ^^^ bv y).toNat : Int) := wrapU (bv x ^^^ bv y)
theorem bits_andNot (x y : Int) : bits .andNot .u64 x y = ((bv x &&& ~~~ bv y).toNat : Int) := wrapU (bv x &&& ~~~ bv y)
theorem bv_toNat (v : BitVec 64) : bv (v.toNat : Int) = v := by
  apply BitVec.eq_of_toNat_eq
  unfold bv
  rw [BitVec.toNat_ofInt]
  have := v.isLt
  omega

theorem rest_or (x m : Int) : bits .andNot .u64 (bits .xor .u64 (orB x m) x) m = 0 := by
  unfold orB
  rw [bits_andNot, bits_xor, bits_or, bv_toNat, bv_toNat]
  rw [show (((bv x ||| bv m) ^^^ bv x) &&& ~~~ bv m) = 0#64 from ?_]; rfl
  apply BitVec.eq_of_getElem_eq
  intro i hi
  simp only [BitVec.getElem_and, BitVec.getElem_or, BitVec.getElem_xor, BitVec.getElem_not, BitVec.getElem_zero]
  cases (bv x)[i] <;> cases (bv m)[i] <;> rfl
theorem bv_max : bv IntKind.u64.max = BitVec.allOnes 64 := rfl
theorem rest_and (x m : Int) : bits .andNot .u64 (bits .xor .u64 (andB x (notB m)) x) m = 0 := by
  unfold andB notB
  rw [bits_andNot, bits_xor, bits_and, bits_xor, bv_toNat, bv_toNat, bv_toNat, bv_max]
  rw [show (((bv x &&& (BitVec.allOnes 64 ^^^ bv m)) ^^^ bv x) &&& ~~~ bv m) = 0#64 from ?_]; rfl
  apply BitVec.eq_of_getElem_eq
  intro i hi
  simp only [BitVec.getElem_and, BitVec.getElem_xor, BitVec.getElem_not, BitVec.getElem_zero, BitVec.getElem_allOnes]
  cases (bv x)[i] <;> cases (bv m)[i] <;> rfl
theorem rest_both (x m : Int) : bits .andNot .u64 (bits .xor .u64 (orB (andB x (notB m)) m) x) m = 0 := by
  unfold orB andB notB
  rw [bits_andNot, bits_xor, bits_or, bits_and, bits_xor, bv_toNat, bv_toNat, bv_toNat, bv_toNat, bv_max]
  rw [show ((((bv x &&& (BitVec.allOnes 64 ^^^ bv m)) ||| bv m) ^^^ bv x) &&& ~~~ bv m) = 0#64 from ?_]; rfl
  apply BitVec.eq_of_getElem_eq
  intro i hi
  simp only [BitVec.getElem_and, BitVec.getElem_or, BitVec.getElem_xor, BitVec.getElem_not, BitVec.getElem_zero, BitVec.getElem_allOnes]
  cases (bv x)[i] <;> cases (bv m)[i] <;> rfl

theorem set_alone (a b : Int) (s : MS) (n : Nat) : alone (n + 1) (newSet a b) s = (0, 0, 1, s.put 4 a (orB (s.at a) (mask b))) := by
  have e : stepK (newSet a b) s = ((newSet a b).fin 0 0, s.put 4 a (orB (s.at a) (mask b))) := rfl
  exact alone_done e rfl

/-- Clear alone: what becomes of its cell; no other cell turns. -/
theorem clear_alone (a b : Int) (q : Q4) (s : MS) (n : Nat) (ha : 0 ≤ a ∧ a < s.cells.length) : ∃ c m s', alone (n + 4) (newClear a b q) s = (c, 0, m, s') ∧ (∀ d, d ≠ a → s'.at d = s.at d) ∧
    (s'.at a = andB (s.at a) (notB (mask b)) ∨ s'.at a = orB (andB (s.at a) (notB (mask b))) (mask b)) := by
  have e1 : stepK (newClear a b q) s = ((newClear a b q).go 2, s.put 5 a (andB (s.at a) (notB (mask b)))) := rfl
  obtain ⟨s1, hs1⟩ : ∃ s1, s1 = s.put 5 a (andB (s.at a) (notB (mask b))) := ⟨_, rfl⟩
  have a1 : s1.at a = andB (s.at a) (notB (mask b)) := by rw [hs1, at_put_same ha]
  have n1 : ∀ d, d ≠ a → s1.at d = s.at d := fun d hd => by rw [hs1, at_put_ne hd]
  have l1 : s1.cells.length = s.cells.length := by rw [hs1, MS.put_len]
  rw [← hs1] at e1
  have e2 : stepK ((newClear a b q).go 2) s1 = ({ (newClear a b q).go 2 with u := s1.at q.bot, line := 3 }, s1.put 1 q.bot (s1.at q.bot)) := rfl
  obtain ⟨s2, hs2⟩ : ∃ s2, s2 = s1.put 1 q.bot (s1.at q.bot) := ⟨_, rfl⟩
  have a2 : ∀ d, s2.at d = s1.at d := fun d => by rw [hs2, at_put_at]
  have l2 : s2.cells.length = s.cells.length := by rw [hs2, MS.put_len, l1]
  rw [← hs2] at e2
  obtain ⟨k3, hk3⟩ : ∃ k3 : K, k3 = { (newClear a b q).go 2 with u := s1.at q.bot, line := 3 } := ⟨_, rfl⟩
  rw [← hk3] at e2
  have o3 : k3.over = false := by rw [hk3]; rfl
  have e3 : stepK k3 s2 = (if sz k3.u (s2.at q.top) ≤ 0 then ({ k3 with v := s2.at q.top }).fin 2 0 else { k3 with v := s2.at q.top, line := 4 }, s2.put 1 q.top (s2.at q.top)) := by rw [hk3]; rfl
  by_cases hz : sz k3.u (s2.at q.top) ≤ 0
  · rw [if_pos hz] at e3
    refine ⟨_, _, _, alone_more e1 rfl (alone_more e2 o3 (alone_done (n := n + 1) e3 rfl)), fun d hd => ?_, .inl ?_⟩
    · rw [at_put_at, a2, n1 d hd]
    · rw [at_put_at, a2, a1]
  · rw [if_neg hz] at e3
    obtain ⟨s3, hs3⟩ : ∃ s3, s3 = s2.put 1 q.top (s2.at q.top) := ⟨_, rfl⟩
    have a3 : ∀ d, s3.at d = s2.at d := fun d => by rw [hs3, at_put_at]
    have l3 : s3.cells.length = s.cells.length := by rw [hs3, MS.put_len, l2]
    rw [← hs3] at e3
    have e4 : stepK { k3 with v := s2.at q.top, line := 4 } s3 = (({ k3 with v := s2.at q.top, line := 4 } : K).fin 1 0, s3.put 4 a (orB (s3.at a) (mask b))) := by rw [hk3]; rfl
    refine ⟨_, _, _, alone_more e1 rfl (alone_more e2 o3 (alone_more e3 o3 (alone_done e4 rfl))), fun d hd => ?_, .inr ?_⟩
    · rw [at_put_ne hd, a3, a2, n1 d hd]
    · rw [at_put_same (by rw [l3]; exact ha), a3, a2, a1]

set_option maxRecDepth 100000 in
set_option maxHeartbeats 2000000 in
theorem BitmapOthers_any (w : World) (x : Int) (wx : (Lit.int .u64 x).wf = true) (top : Int) (wt : (Lit.int .u64 top).wf = true) (bottom : Int) (wb : (Lit.int .u64 bottom).wf = true) (bit : Int) (wbit : (Lit.int .i64 bit).wf = true) (set : Bool) :
    Calls Try.prog 8 #[.int .u64 x, .int .u64 top, .int .u64 bottom, .int .i64 bit, .bool set] w fun e w' => e = .returned (.bool true) ∧ Only [] w w' := by
  have HWX := Lib.hid (And.intro (wf_u64 wx) (And.intro (wf_u64 wt) (wf_u64 wb)))
  clear wx wt wb wbit
  go_enter Try.func8, Try.ntmps8
  go_wp2_with fail
  obtain ⟨wq, hwq⟩ : ∃ wq, wq = w.alloc (.cells #[.int .u64 top, .int .u64 bottom, .int .u64 7, .int .u64 8, .int .u64 x] 22) := ⟨_, rfl⟩
  rw [← hwq]
  have Oq : Hid (Only [] w wq) := Lib.hid (by rw [hwq]; exact (Only.refl _ _).alloc _)
  have CB : Hid (CellsAt wq (some ⟨w.heap.size, 0, none⟩) (([top, bottom, 7, 8, x] : List Int).map (.int .u64))) := Lib.hid (cellsAt_blk (by rw [hwq]; exact blk_alloc_new _ _))
  clear hwq
  refine (bare_any wq _ 5 5 [top, bottom, 7, 8, x] CB.out rfl (by omega)).mono ?_; rintro e w2 ⟨en, m, bc, ck, r, rc, rfl, o2, hB, lo, hi'⟩
  have E0 : Hid (EnvAt w2 en m bc ck (bareMS [top, bottom, 7, 8, x]) 0) := Lib.hid hB.ee
  have O0 := Lib.hid (Oq.out.then0 o2)
  have s2 := o2.size
  obtain ⟨lo1, lo2, lo3, lo4, lo5, lo6⟩ := lo
  obtain ⟨hi1, hi2, hi3, hi4, hi5, hi6⟩ := hi'
  have so := Oq.out.size
  have hb0 : bc < w2.heap.size := hi3
  clear o2 hB
  obtain ⟨S0, hS0⟩ : ∃ S0, S0 = bareMS [top, bottom, 7, 8, x] := ⟨_, rfl⟩
  rw [← hS0] at E0
  have A0 : Hid (S0.at 0 = top ∧ S0.at 1 = bottom ∧ S0.at 2 = 7 ∧ S0.at 3 = 8 ∧ S0.at 4 = x ∧ S0.cells.length = 5 ∧ S0.count = 5) := Lib.hid (by
    rw [hS0]
    unfold MS.at
    rw [bareMS_cells, bareMS_count]
    exact ⟨rfl, rfl, rfl, rfl, rfl, rfl, rfl⟩)
  have SOK : Hid S0.ok := Lib.hid (by
    intro y hy
    rw [hS0, bareMS_cells] at hy
    obtain ⟨h1, h2, h3⟩ := HWX.out
    simp at hy
    rcases hy with rfl | rfl | rfl | rfl | rfl <;> omega)
  have SPEC : Hid (∃ c n s', alone 9 (if set then newSet 4 bit else newClear 4 bit (q0 2)) S0 = (c, 0, n, s') ∧ s'.at 0 = top ∧ s'.at 1 = bottom ∧ s'.at 2 = 7 ∧ s'.at 3 = 8 ∧ bits .andNot .u64 (bits .xor .u64 (s'.at 4) x) (mask bit) = 0) := Lib.hid (by
    obtain ⟨h0, h1, h2, h3, h4, h5, _⟩ := A0.out
    cases set with
    | true => exact ⟨_, _, _, set_alone 4 bit S0 8, by rw [at_put_ne (by omega), h0], by rw [at_put_ne (by omega), h1], by rw [at_put_ne (by omega), h2], by rw [at_put_ne (by omega), h3], by rw [at_put_same (by omega), h4]; exact rest_or _ _⟩
    | false =>
      obtain ⟨c, m, s', ha, hd, hz⟩ := clear_alone 4 bit (q0 2) S0 5 (by omega)
      refine ⟨c, m, s', ha, by rw [hd 0 (by omega), h0], by rw [hd 1 (by omega), h1], by rw [hd 2 (by omega), h2], by rw [hd 3 (by omega), h3], ?_⟩
      rw [h4] at hz
      rcases hz with h | h
      · rw [h]; exact rest_and _ _
      · rw [h]; exact rest_both _ _)
  clear hS0
  go_wp2_with fail
  refine (awake12_any _).mono ?_; rintro e w3 ⟨rfl, o3⟩
  have E3 := Lib.hid (E0.out.keep0 o3)
  have O3 := Lib.hid (O0.out.then0 o3)
  have s3 := o3.size
  have hb3 : bc < w3.heap.size := by omega
  clear o3
  have FIN : ∀ (w4 : World) (c : Int) (n : Nat) (s' : MS), EnvAt w4 en m bc ck s' 0 → Only [] w w4 → s'.at 0 = top → s'.at 1 = bottom → s'.at 2 = 7 → s'.at 3 = 8 → bits .andNot .u64 (bits .xor .u64 (s'.at 4) x) (mask bit) = 0 → True := fun _ _ _ _ _ _ _ _ _ _ _ => trivial
  clear FIN
  cases set with
  | true =>
    obtain ⟨c, n, s', ha, h0, h1, h2, h3, h4⟩ := SPEC.out
    simp only [if_true] at ha
    have HA := Lib.hid ha
    have HH := Lib.hid (And.intro h0 (And.intro h1 (And.intro h2 (And.intro h3 h4))))
    clear ha h0 h1 h2 h3 h4
    go_wp2_with fail
    refine (set_new _ 4 bit).mono ?_; rintro e v4 ⟨p4, rfl, a4, b4, c4, d4⟩
    have X4 := Lib.hid (apart_new E3.out hb3 c4)
    have F4 := Lib.hid (E3.out.keep0 a4)
    have BB4 := Lib.hid b4
    have A4 := Lib.hid a4
    have z4 := a4.size
    clear a4 b4
    go_wp2_with fail
    refine (alone_is v4 p4 en m bc ck (newSet 4 bit) _ 0 9 (by omega) 3 rfl rfl (newSet_ok 4 bit) SOK.out F4.out X4.out.1 X4.out.2 BB4.out (by have := A0.out.2.2.2.2.2.2; omega) HA.out).mono ?_; rintro e x4 ⟨rfl, o4, e4⟩
    have E4 := Lib.hid e4
    have O4 : Hid (Only [] w x4) := Lib.hid ((O3.out.then0 A4.out).trans o4 (by have := O3.out.size; simp; omega))
    have y4 := o4.size
    have hb4 : bc < x4.heap.size := by omega
    clear o4 e4
    have e22 := E4.out.mem
    obtain ⟨h0, h1, h2, h3, h4⟩ := HH.out
    have PK := fun (q : Nat) (c : Int) => Lib.hid ((peek_any x4 m bc s' c E4.out.mm).mono fun _ _ h => (⟨h.1, h.2.symm⟩ : _ ∧ _ = x4))
    have P0 := PK 0 0
    have P1 := PK 0 1
    have P2 := PK 0 2
    have P3 := PK 0 3
    rw [h0] at P0
    rw [h1] at P1
    rw [h2] at P2
    rw [h3] at P3
    have P4 := PK 0 4
    obtain ⟨z, hz⟩ : ∃ z, z = s'.at 4 := ⟨_, rfl⟩
    rw [← hz] at P4 h4
    have H4 := Lib.hid h4
    clear h0 h1 h2 h3 h4 hz PK
    go_wp2_with fail
    refine P0.out.mono ?_; rintro e y0 ⟨rfl, rfl⟩
    go_wp2_with fail
    refine P1.out.mono ?_; rintro e y0 ⟨rfl, rfl⟩
    go_wp2_with fail
    refine P2.out.mono ?_; rintro e y0 ⟨rfl, rfl⟩
    go_wp2_with fail
    refine P3.out.mono ?_; rintro e y0 ⟨rfl, rfl⟩
    go_wp2_with fail
    refine P4.out.mono ?_; rintro e y0 ⟨rfl, rfl⟩
    go_wp2_with fail
    refine (refMask_any _ bit).mono ?_; rintro e y0 ⟨rfl, rfl⟩
    go_wp2_with fail
    go_ret
    exact ⟨by rw [show (bits .andNot .u64 (bits .xor .u64 z x) (mask bit) == 0) = true from by rw [H4.out]; rfl]; rfl, O4.out⟩
  | false =>
    obtain ⟨c, n, s', ha, h0, h1, h2, h3, h4⟩ := SPEC.out
    simp only [Bool.false_eq_true, if_false] at ha
    have HA := Lib.hid ha
    have HH := Lib.hid (And.intro h0 (And.intro h1 (And.intro h2 (And.intro h3 h4))))
    clear ha h0 h1 h2 h3 h4
    go_wp2_with fail
    refine (queue_any _ 2).mono ?_; rintro e wz ⟨rfl, oz⟩
    simp only [Q4.v]
    have Ez := Lib.hid (E3.out.keep0 oz)
    have Oz := Lib.hid (O3.out.then0 oz)
    have sz1 := oz.size
    have hbz : bc < wz.heap.size := by omega
    clear oz
    go_wp2_with fail
    refine (clear_new _ 4 bit (q0 2)).mono ?_; rintro e v4 ⟨p4, rfl, a4, b4, c4, d4⟩
    have X4 := Lib.hid (apart_new Ez.out hbz c4)
    have F4 := Lib.hid (Ez.out.keep0 a4)
    have BB4 := Lib.hid b4
    have A4 := Lib.hid a4
    have z4 := a4.size
    clear a4 b4
    go_wp2_with fail
    refine (alone_is v4 p4 en m bc ck (newClear 4 bit (q0 2)) _ 0 9 (by omega) 4 rfl rfl (newClear_ok 4 bit (q0 2) (q0_clear 2)) SOK.out F4.out X4.out.1 X4.out.2 BB4.out (by have := A0.out.2.2.2.2.2.2; omega) HA.out).mono ?_; rintro e x4 ⟨rfl, o4, e4⟩
    have E4 := Lib.hid e4
    have O4 : Hid (Only [] w x4) := Lib.hid ((Oz.out.then0 A4.out).trans o4 (by have := Oz.out.size; simp; omega))
    have y4 := o4.size
    have hb4 : bc < x4.heap.size := by omega
    clear o4 e4
    have e22 := E4.out.mem
    obtain ⟨h0, h1, h2, h3, h4⟩ := HH.out
    have PK := fun (q : Nat) (c : Int) => Lib.hid ((peek_any x4 m bc s' c E4.out.mm).mono fun _ _ h => (⟨h.1, h.2.symm⟩ : _ ∧ _ = x4))
    have P0 := PK 0 0
    have P1 := PK 0 1
    have P2 := PK 0 2
    have P3 := PK 0 3
    rw [h0] at P0
    rw [h1] at P1
    rw [h2] at P2
    rw [h3] at P3
    have P4 := PK 0 4
    obtain ⟨z, hz⟩ : ∃ z, z = s'.at 4 := ⟨_, rfl⟩
    rw [← hz] at P4 h4
    have H4 := Lib.hid h4
    clear h0 h1 h2 h3 h4 hz PK
    go_wp2_with fail
    refine P0.out.mono ?_; rintro e y0 ⟨rfl, rfl⟩
    go_wp2_with fail
    refine P1.out.mono ?_; rintro e y0 ⟨rfl, rfl⟩
    go_wp2_with fail
    refine P2.out.mono ?_; rintro e y0 ⟨rfl, rfl⟩
    go_wp2_with fail
    refine P3.out.mono ?_; rintro e y0 ⟨rfl, rfl⟩
    go_wp2_with fail
    refine P4.out.mono ?_; rintro e y0 ⟨rfl, rfl⟩
    go_wp2_with fail
    refine (refMask_any _ bit).mono ?_; rintro e y0 ⟨rfl, rfl⟩
    go_wp2_with fail
    go_ret
    exact ⟨by rw [show (bits .andNot .u64 (bits .xor .u64 z x) (mask bit) == 0) = true from by rw [H4.out]; rfl]; rfl, O4.out⟩
end Go.Proofs.Ytnjddpijlgjgeaa
