/- Which operations come before which, walked. -/
import Derived.Test.YtfhkhknnoepfeaaGreatMgA
import Derived.Test.YtfhkhknnoepfeaaGreatHistLinP2
import Derived.Laws.MakeOwn
import Derived.WalkSpells
import Derived.BigRegion
import Derived.Deep.DeepCutAuto
namespace Go.Proofs.YtfhkhknnoepfeaaGreat
open Go.RowKit
set_option linter.unusedVariables false

theorem info16 : (Tryz.prog.info? 80).map (fun i => (i.zero, i.size, i.bytes)) = some (some (.int .u16 0), 1, 2) := by kernel_rfl

theorem wrap_u16_nat (a : Nat) (h : a < 65536) : IntKind.u16.wrap (a : Int) = (a : Int) := by
  rw [IntKind.wrap_u16]; omega
theorem bits_or_u16_nat (a b : Nat) (ha : a < 65536) (hb : b < 65536) : bits .or .u16 (a : Int) (b : Int) = ((a ||| b : Nat) : Int) := by
  have hx : a ||| b < 2 ^ 16 := Nat.or_lt_two_pow (by omega) (by omega)
  have h1 : (BitVec.ofInt 16 (a : Int)).toNat = a := by
    rw [BitVec.ofInt_natCast, BitVec.toNat_ofNat]; exact Nat.mod_eq_of_lt (by omega)
  have h2 : (BitVec.ofInt 16 (b : Int)).toNat = b := by
    rw [BitVec.ofInt_natCast, BitVec.toNat_ofNat]; exact Nat.mod_eq_of_lt (by omega)
  show IntKind.u16.wrap ((BitVec.ofInt 16 (a : Int) ||| BitVec.ofInt 16 (b : Int)).toNat : Int) = _
  rw [BitVec.toNat_or, h1, h2]
  exact wrap_u16_nat _ (by omega)

/-- The words after k operations and j of the next one. -/
def bfRow (l : List HOp) (k j : Nat) : List Value := (List.range l.length).map fun i => .int .u16 ((if i < k then earlyN (fun a => l.getD a HOp.zero) (l.getD i HOp.zero).frm l.length else if i = k then earlyN (fun a => l.getD a HOp.zero) (l.getD k HOp.zero).frm j else 0 : Nat) : Int)
theorem bfRow_len (l : List HOp) (k j : Nat) : (bfRow l k j).length = l.length := by simp [bfRow]
theorem bfRow_zero (l : List HOp) : bfRow l 0 0 = List.replicate l.length (.int .u16 0) := by
  unfold bfRow
  apply List.ext_getElem
  · simp
  · intro i h1 h2
    simp
    intro h3
    simp [earlyN]
theorem bfRow_next (l : List HOp) (k : Nat) : bfRow l (k + 1) 0 = bfRow l k l.length := by
  unfold bfRow
  refine List.map_congr_left fun i _ => ?_
  by_cases h1 : i < k
  · rw [if_pos h1, if_pos (by omega)]
  · by_cases h2 : i = k
    · subst h2; rw [if_pos (by omega), if_neg (by omega), if_pos rfl]
    · rw [if_neg h1, if_neg h2, if_neg (by omega)]
      by_cases h3 : i = k + 1
      · rw [if_pos h3]; rfl
      · rw [if_neg h3]
theorem bfRow_at (l : List HOp) (k j : Nat) (hk : k < l.length) : (bfRow l k j)[k]? = some (.int .u16 (earlyN (fun a => l.getD a HOp.zero) (l.getD k HOp.zero).frm j)) := by
  unfold bfRow; simp [hk]
theorem bfRow_same (l : List HOp) (k j : Nat) (h : ¬ (l.getD j HOp.zero).to < (l.getD k HOp.zero).frm) : bfRow l k (j + 1) = bfRow l k j := by
  have e : earlyN (fun a => l.getD a HOp.zero) (l.getD k HOp.zero).frm (j + 1) = earlyN (fun a => l.getD a HOp.zero) (l.getD k HOp.zero).frm j := by rw [earlyN, if_neg h]
  unfold bfRow
  rw [e]
theorem bfRow_set (l : List HOp) (k j : Nat) (hk : k < l.length) (h : (l.getD j HOp.zero).to < (l.getD k HOp.zero).frm) : bfRow l k (j + 1) = (bfRow l k j).set k (.int .u16 ((earlyN (fun a => l.getD a HOp.zero) (l.getD k HOp.zero).frm j ||| 1 <<< j : Nat) : Int)) := by
  have e : earlyN (fun a => l.getD a HOp.zero) (l.getD k HOp.zero).frm (j + 1) = earlyN (fun a => l.getD a HOp.zero) (l.getD k HOp.zero).frm j ||| 1 <<< j := by rw [earlyN, if_pos h]
  unfold bfRow
  rw [e]
  apply List.ext_getElem
  · simp
  · intro i h1 h2
    rw [List.getElem_set]
    simp only [List.getElem_map, List.getElem_range]
    by_cases h3 : i < k
    · rw [if_pos h3, if_neg (by omega), if_pos h3]
    · by_cases h4 : k = i
      · subst h4; rw [if_neg h3, if_pos rfl, if_pos rfl]
      · rw [if_neg h3, if_neg (fun e => h4 e.symm), if_neg h4, if_neg h3, if_neg (fun e => h4 e.symm)]

set_option maxRecDepth 100000 in
set_option maxHeartbeats 1000000 in
theorem before_any (w : World) (v : Value) (l : List HOp) (hv : OL w v l) (hn : l.length ≤ 12) :
    Calls Tryz.prog 25 #[v] w fun e w' => ∃ v' b, e = .returned v' ∧ RowAt w' v' b 80 (bfRow l l.length 0) ∧ w.heap.size ≤ b ∧ Only [] w w' := by
  obtain ⟨i0, hi, hz0, hz1, hz2⟩ := info_parts info16
  obtain ⟨ao, c1, rfl, hc, g1⟩ := hv
  obtain ⟨n, hnn⟩ : ∃ n, n = l.length := ⟨_, rfl⟩
  rw [← hnn] at hn hc g1 ⊢
  have G := Lib.hid g1
  have HN := Lib.hid hnn
  clear g1 hnn
  go_enter Tryz.func25, Tryz.ntmps25
  go_wp2_with (at_make; refine wpList_make_full _ rfl _ _ 73 rfl w.heap.size 80 i0 (.int .u16 0) 1 Tryz.underlying73 hi hz0 hz1 .i64 .i64 _ _ n rfl rfl rfl rfl (by rw [hz2]; omega) (by unfold maxLen; omega) (by simp) ?_)
  intro w1 hown hgrow
  obtain ⟨hr, hb, hb2⟩ := rowAt_of_owns2 hown
  rw [toList_madeCells_one] at hr
  obtain ⟨bb, hbb⟩ : ∃ bb, bb = w.heap.size := ⟨_, rfl⟩
  have O1 : Hid (Only [] w w1) := Lib.hid ((Only.refl [] w).grown hgrow (by simp))
  rw [← hbb] at hr hb2 ⊢
  have hbl : w.heap.size ≤ bb := by omega
  have R1 : Hid (RowAt w1 (.slice (some ⟨bb, 0, none⟩) n n) bb 80 (bfRow l 0 0)) := Lib.hid (by rw [bfRow_zero, ← HN.out]; exact hr)
  clear hown hgrow hr hb hbb
  go_wp2_with fail
  go_loopw [13] (fun i wr => ∃ k : Nat, k ≤ n ∧ i = .int .i64 k ∧ RowAt wr (.slice (some ⟨bb, 0, none⟩) n n) bb 80 (bfRow l k 0) ∧ Only [bb] w wr ∧ bb < wr.heap.size) (fun i _ => n - (intOf i).toNat)
  case atStart => exact ⟨0, Nat.zero_le _, rfl, R1.out, O1.out.mono (by simp), hb2⟩
  case round =>
    obtain ⟨k, hk, rfl, hR, hP, hbw⟩ := hrel
    have R := Lib.hid hR
    have P := Lib.hid hP
    by_cases hlt : k < n
    · obtain ⟨b, off, rfl, hc1⟩ := G.out (by omega)
      have hbnn : b ∉ [bb] := by
        have := lt_of_cell (hc1 k hlt).1
        simp at this ⊢; omega
      have e1 := (hc1 k hlt).keep P.out hbnn
      obtain ⟨A, hA⟩ : ∃ A, A = l.getD k HOp.zero := ⟨_, rfl⟩
      have HA := Lib.hid hA
      rw [← hA] at e1
      unfold OpAt at e1
      clear hR hP hA hc1
      obtain ⟨a0, a1, a2, a3, a4, a5⟩ := e1
      go_upto_region 5 with fail
      obtain ⟨w2, hw2⟩ : ∃ w2, w2 = wr.alloc (.cells #[.int .i64 A.kind, .int .i64 A.mach, .int .i64 A.frm, .int .i64 A.to, .int .i64 A.code, .int .i64 A.value] 36) := ⟨_, rfl⟩
      obtain ⟨b5, hb5⟩ : ∃ b5, b5 = wr.heap.size := ⟨_, rfl⟩
      rw [← hw2, ← hb5]
      have c5 : w2.cell? ⟨b5, 2, none⟩ = some (.int .i64 A.frm) := by
        have := blk_alloc_new wr (.cells #[.int .i64 A.kind, .int .i64 A.mach, .int .i64 A.frm, .int .i64 A.to, .int .i64 A.code, .int .i64 A.value] 36)
        rw [← hw2, ← hb5] at this
        rw [cell_blk this]; rfl
      have P2 : Hid (Only [bb] w w2) := Lib.hid (by rw [hw2]; exact P.out.alloc _)
      have R2 : Hid (RowAt w2 (.slice (some ⟨bb, 0, none⟩) n n) bb 80 (bfRow l k 0)) := Lib.hid (R.out.keep (by rw [hw2]; exact (Only.refl [] _).alloc _) (by simp))
      have hb52 : b5 ≠ bb := by omega
      have hbw2 : bb < w2.heap.size := by rw [hw2]; simp; omega
      clear hw2 hb5 a0 a1 a2 a3 a4 a5
      go_wp2_with fail
      go_loopw [20] (fun i wr => ∃ j : Nat, j ≤ n ∧ i = .int .i64 j ∧ RowAt wr (.slice (some ⟨bb, 0, none⟩) n n) bb 80 (bfRow l k j) ∧ Only [bb] w2 wr ∧ bb < wr.heap.size) (fun i _ => n - (intOf i).toNat)
      case atStart => exact ⟨0, Nat.zero_le _, rfl, R2.out, Only.refl _ _, hbw2⟩
      case round =>
        obtain ⟨j, hj, rfl, hR, hP, hbw⟩ := hrel
        have R := Lib.hid hR
        have P3 := Lib.hid hP
        by_cases hlt2 : j < n
        · obtain ⟨b', off', hbe, hc2⟩ := G.out (by omega)
          cases hbe
          have e2 := (hc2 j hlt2).keep (P2.out.trans P3.out (by simp)) hbnn
          obtain ⟨D, hD⟩ : ∃ D, D = l.getD j HOp.zero := ⟨_, rfl⟩
          have HD := Lib.hid hD
          rw [← hD] at e2
          unfold OpAt at e2
          obtain ⟨d0, d1, d2, d3, d4, d5⟩ := e2
          have c5' := P3.out.keepCell c5 (by simp; omega)
          have h5l : b5 < wr.heap.size := lt_of_cell c5'
          obtain ⟨E, hE⟩ : ∃ E, E = earlyN (fun a => l.getD a HOp.zero) (l.getD k HOp.zero).frm j := ⟨_, rfl⟩
          have hE1 : E < 2 ^ 12 := by
            have := earlyN_lt (fun a => l.getD a HOp.zero) (l.getD k HOp.zero).frm j
            rw [← hE] at this
            exact Nat.lt_of_lt_of_le this (Nat.pow_le_pow_right (by omega) (by omega))
          have hE2 : E < 65536 := by omega
          have hS2 : 1 <<< j < 65536 := by
            rw [Nat.shiftLeft_eq, Nat.one_mul]
            have : 2 ^ j ≤ 2 ^ 12 := Nat.pow_le_pow_right (by omega) (by omega)
            omega
          have RS : Hid (¬ D.to < A.frm → bfRow l k (j + 1) = bfRow l k j) := Lib.hid (by rw [hD, HA.out]; exact bfRow_same l k j)
          have RT : Hid (D.to < A.frm → bfRow l k (j + 1) = (bfRow l k j).set k (.int .u16 ((E ||| 1 <<< j : Nat) : Int))) := Lib.hid (by rw [hD, HA.out, hE]; exact bfRow_set l k j (by have := HN.out; omega))
          obtain ⟨cap, hcp, _, _, hcell, hfree, hrow⟩ := R.out.at (by rw [bfRow_len]; have := HN.out; omega)
          have hck := hcell k (by rw [bfRow_len]; have := HN.out; omega)
          have hkk := bfRow_at l k j (by have := HN.out; omega)
          rw [List.getElem?_eq_getElem (by rw [bfRow_len]; have := HN.out; omega), Option.some.injEq] at hkk
          rw [hkk, ← hE] at hck
          have hfk := hfree k
          have HRW := Lib.hid hrow
          clear hR hP hD hc2 hcell hfree hrow hkk hE hcp
          by_cases hto : D.to < A.frm
          · have hdt : decide (D.to < A.frm) = true := decide_eq_true hto
            go_wp2_with fail
            have hsh : bits BinOp.or IntKind.u16 (E : Int) (IntKind.u16.wrap ((2 : Int) ^ j)) = ((E ||| 1 <<< j : Nat) : Int) := by
              have e2 : ((2 : Int) ^ j) = ((1 <<< j : Nat) : Int) := by rw [Nat.shiftLeft_eq, Nat.one_mul]; simp
              rw [e2, wrap_u16_nat _ hS2, bits_or_u16_nat _ _ hE2 hS2]
            rw [hsh]
            go_roundw
            case rel =>
              refine ⟨j + 1, by omega, by go_num, ?_, (P3.out.setCell (by simp) _).alloc _, by simp [World.setCell]; omega⟩
              rw [RT.out hto]
              exact HRW.out k _ _ (by rw [bfRow_len]; have := HN.out; omega) (blk_alloc_old (by simp [World.setCell]; omega) _)
            case measure => simp [intOf]; omega
          · have hdt : decide (D.to < A.frm) = false := decide_eq_false hto
            go_wp2_with fail
            go_roundw
            case rel => exact ⟨j + 1, by omega, by go_num, by rw [RS.out hto]; exact R.out.keep ((Only.refl [] _).alloc _) (by simp), P3.out.alloc _, by simp; omega⟩
            case measure => simp [intOf]; omega
        · obtain rfl : n = j := by omega
          have RN := Lib.hid (bfRow_next l k)
          clear hR hP
          go_wp2_with fail
          go_roundw
          case rel => exact ⟨k + 1, by omega, by go_num, by rw [RN.out, ← HN.out]; exact R.out, P2.out.trans P3.out (by simp), hbw⟩
          case measure => simp [intOf]; omega
    · obtain rfl : n = k := by omega
      clear hR hP
      go_wp2_with fail
      go_ret
      exact ⟨_, bb, rfl, by have := R.out; rwa [HN.out] at this, hbl, P.out.mono (by simp; omega)⟩
end Go.Proofs.YtfhkhknnoepfeaaGreat
