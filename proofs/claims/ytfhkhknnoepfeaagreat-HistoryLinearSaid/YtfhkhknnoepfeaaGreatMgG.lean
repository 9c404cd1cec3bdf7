/- A pop applied to a state, walked. (Written by wip/gen_histapply.py.) -/
import Derived.Test.YtfhkhknnoepfeaaGreatHistLin5
import Derived.DeepKeys3
import Derived.Test.YtfhkhknnoepfeaaGreatMgB
import Derived.Test.YtfhkhknnoepfeaaGreatHistLin3
namespace Go.Proofs.YtfhkhknnoepfeaaGreat
open Go.RowKit
set_option linter.unusedVariables false
set_option maxRecDepth 100000 in
set_option maxHeartbeats 8000000 in
theorem apply_pop (w : World) (ov : Value) (l : List HOp) (hv : OL w ov l) (d : Nat) (p : Nat → Int) (sz i : Nat) (cap : Int) (hi : i < l.length) (hn : l.length ≤ 12) (hd : d < 65536) (hsz : sz ≤ 12) (hroom : sz ≤ 11 ∨ ¬ (l.getD i HOp.zero).kind = 0) (hp : ∀ j, j < sz → ∃ q : Nat, p j = q ∧ q < l.length) (k0 : ¬ (l.getD i HOp.zero).kind = 0) (c2 : ¬ (l.getD i HOp.zero).code = 2) (c4 : ¬ (l.getD i HOp.zero).code = 4) (z0 : ¬ sz = 0) (k2 : ¬ (l.getD i HOp.zero).kind = 2) :
    Calls Tryz.prog 36 #[stA d p sz, ov, .int .i64 i, .int .i64 cap] w (ApRes w l ((d ||| 1 <<< i : Nat) : Int) p sz i cap) := by
  obtain ⟨ao, c1, rfl, hc, g1⟩ := hv
  obtain ⟨n, hnn⟩ : ∃ n, n = l.length := ⟨_, rfl⟩
  rw [← hnn] at hn hc g1 hi hp ⊢
  obtain ⟨b, off, rfl, hcs⟩ := g1 (by omega)
  have e1 := hcs i hi
  obtain ⟨o, ho⟩ : ∃ o, o = l.getD i HOp.zero := ⟨_, rfl⟩
  have HO := Lib.hid ho
  rw [← ho] at e1 hroom k0 c2 c4 k2
  unfold OpAt at e1
  obtain ⟨a0, a1, a2, a3, a4, a5⟩ := e1
  have hS2 : 1 <<< i < 65536 := by
    rw [Nat.shiftLeft_eq, Nat.one_mul]
    have : 2 ^ i ≤ 2 ^ 12 := Nat.pow_le_pow_right (by omega) (by omega)
    omega
  have hsh : bits BinOp.or IntKind.u16 (d : Int) (IntKind.u16.wrap ((2 : Int) ^ i)) = ((d ||| 1 <<< i : Nat) : Int) := by
    have e2 : ((2 : Int) ^ i) = ((1 <<< i : Nat) : Int) := by rw [Nat.shiftLeft_eq, Nat.one_mul]; simp
    rw [e2, wrap_u16_nat _ hS2, bits_or_u16_nat _ _ hd hS2]
  obtain ⟨d', hd'⟩ : ∃ d' : Int, d' = ((d ||| 1 <<< i : Nat) : Int) := ⟨_, rfl⟩
  rw [← hd'] at hsh ⊢
  have CS := Lib.hid hcs
  have HP := Lib.hid hp
  have HRM := Lib.hid hroom
  have hbl := lt_of_cell a0
  simp at hbl
  clear hcs ho g1 hp hd' hroom
  go_enter Tryz.func36, Tryz.ntmps36
  simp only [stA, stC]
  go_upto_region 2 with fail
  go_cut [] (fun wx => ApB w wx w.heap.size (w.heap.size + 1) (w.heap.size + 1 + 1) d' p sz o)
  case first =>
    go_wp2_with fail
    go_meet
    have n1 := blk_alloc_new w (stO d' p sz)
    have n2 := blk_alloc_new (w.alloc (stO d' p sz)) (stO 0 (fun _ => 0) 0)
    have n3 := blk_alloc_new ((w.alloc (stO d' p sz)).alloc (stO 0 (fun _ => 0) 0)) (.cells #[.int .i64 o.kind, .int .i64 o.mach, .int .i64 o.frm, .int .i64 o.to, .int .i64 o.code, .int .i64 o.value] 36)
    rw [show (w.alloc (stO d' p sz)).heap.size = w.heap.size + 1 by simp] at n2
    rw [show ((w.alloc (stO d' p sz)).alloc (stO 0 (fun _ => 0) 0)).heap.size = w.heap.size + 1 + 1 by simp] at n3
    refine ⟨?_, ⟨0, fun _ => 0, 0, ?_⟩, n3, by omega, (((Only.refl _ _).alloc _).alloc _).alloc _, by omega⟩
    · exact (blk_alloc_old (by simp; omega) _).trans ((blk_alloc_old (by simp) _).trans n1)
    · exact (blk_alloc_old (by simp) _).trans n2
  case rest =>
    obtain ⟨hS, ⟨d0, p0, z0, hR⟩, hO, hne, hP, hlo⟩ := hcut
    generalize w.heap.size + 1 + 1 = b10 at *
    generalize w.heap.size + 1 = b8 at *
    generalize hb4 : w.heap.size = b4 at *
    obtain ⟨ne1, ne2, ne3⟩ := hne
    have SB := Lib.hid hS
    have RB := Lib.hid hR
    have OB := Lib.hid hO
    have PP := Lib.hid hP
    have s0 := cell_blk (show wc.heap[b4]? = some (.cells _ _ _) from hS) 0
    have s1 := cell_blk (show wc.heap[b4]? = some (.cells _ _ _) from hS) 1
    have s2 := cell_blk (show wc.heap[b4]? = some (.cells _ _ _) from hS) 2
    have s3 := cell_blk (show wc.heap[b4]? = some (.cells _ _ _) from hS) 3
    have s4 := cell_blk (show wc.heap[b4]? = some (.cells _ _ _) from hS) 4
    have s5 := cell_blk (show wc.heap[b4]? = some (.cells _ _ _) from hS) 5
    have s6 := cell_blk (show wc.heap[b4]? = some (.cells _ _ _) from hS) 6
    have s7 := cell_blk (show wc.heap[b4]? = some (.cells _ _ _) from hS) 7
    have s8 := cell_blk (show wc.heap[b4]? = some (.cells _ _ _) from hS) 8
    have s9 := cell_blk (show wc.heap[b4]? = some (.cells _ _ _) from hS) 9
    have s10 := cell_blk (show wc.heap[b4]? = some (.cells _ _ _) from hS) 10
    have s11 := cell_blk (show wc.heap[b4]? = some (.cells _ _ _) from hS) 11
    have s12 := cell_blk (show wc.heap[b4]? = some (.cells _ _ _) from hS) 12
    have s13 := cell_blk (show wc.heap[b4]? = some (.cells _ _ _) from hS) 13
    have fs := fun i => free_blk (show wc.heap[b4]? = some (.cells _ _ _) from hS) i
    simp [stC] at s0 s1 s2 s3 s4 s5 s6 s7 s8 s9 s10 s11 s12 s13
    have r0 := cell_blk (show wc.heap[b8]? = some (.cells _ _ _) from hR) 0
    have r1 := cell_blk (show wc.heap[b8]? = some (.cells _ _ _) from hR) 1
    have r2 := cell_blk (show wc.heap[b8]? = some (.cells _ _ _) from hR) 2
    have r3 := cell_blk (show wc.heap[b8]? = some (.cells _ _ _) from hR) 3
    have r4 := cell_blk (show wc.heap[b8]? = some (.cells _ _ _) from hR) 4
    have r5 := cell_blk (show wc.heap[b8]? = some (.cells _ _ _) from hR) 5
    have r6 := cell_blk (show wc.heap[b8]? = some (.cells _ _ _) from hR) 6
    have r7 := cell_blk (show wc.heap[b8]? = some (.cells _ _ _) from hR) 7
    have r8 := cell_blk (show wc.heap[b8]? = some (.cells _ _ _) from hR) 8
    have r9 := cell_blk (show wc.heap[b8]? = some (.cells _ _ _) from hR) 9
    have r10 := cell_blk (show wc.heap[b8]? = some (.cells _ _ _) from hR) 10
    have r11 := cell_blk (show wc.heap[b8]? = some (.cells _ _ _) from hR) 11
    have r12 := cell_blk (show wc.heap[b8]? = some (.cells _ _ _) from hR) 12
    have r13 := cell_blk (show wc.heap[b8]? = some (.cells _ _ _) from hR) 13
    have fr := fun i => free_blk (show wc.heap[b8]? = some (.cells _ _ _) from hR) i
    simp [stC] at r0 r1 r2 r3 r4 r5 r6 r7 r8 r9 r10 r11 r12 r13
    have o0 := cell_blk hO 0
    have o1 := cell_blk hO 1
    have o2 := cell_blk hO 2
    have o3 := cell_blk hO 3
    have o4 := cell_blk hO 4
    have o5 := cell_blk hO 5
    simp at o0 o1 o2 o3 o4 o5
    have hl4 := lt_of_blk hS
    have hl8 := lt_of_blk hR
    have k5 := hP.keepCell a5 (by simp)
    have hl48 := hlo.2
    clear hS hR hO hP hlo
    have kb0 : (o.kind == 0) = false := by simpa using k0
    have cb2 : (o.code == 2) = false := by simpa using c2
    have cb4 : (o.code == 4) = false := by simpa using c4
    obtain ⟨m, rfl⟩ : ∃ m, sz = m + 1 := ⟨sz - 1, by omega⟩
    obtain ⟨q, hq, hqn⟩ := HP.out m (by omega)
    have cM : wc.cell? ⟨b4, 1 + m, none⟩ = some (.int .i64 (p m)) := by rw [cell_blk (show wc.heap[b4]? = some (.cells _ _ _) from SB.out)]; exact stC_get _ _ _ _ (by omega)
    obtain ⟨vq, hvq⟩ : ∃ vq, vq = (l.getD q HOp.zero).value := ⟨_, rfl⟩
    have kq := PP.out.keepCell (show w.cell? ⟨b, off + q * 6 + 5, none⟩ = some (.int .i64 vq) from by rw [hvq]; exact (CS.out q hqn).2.2.2.2.2) (by simp)
    have hqv : (p m).toNat = q := by rw [hq]; omega
    have VQ := Lib.hid (show (l.getD (p m).toNat HOp.zero).value = vq from by rw [hqv, hvq])
    have HQ := Lib.hid hq
    clear hvq hqv
    have kb2 : (o.kind == 2) = false := by simpa using k2
    rw [HQ.out] at cM
    obtain ⟨p6, hp6⟩ : ∃ p6 : Nat → Int, p6 = fun j => if j = m then (0 : Int) else p j := ⟨_, rfl⟩
    have HP6 := Lib.hid hp6
    go_upto_region 23 with fail
    obtain ⟨w6, hw6⟩ : ∃ w6, w6 = (wc.setCell ⟨b4, 13, none⟩ (.int .i64 m)).setCell ⟨b4, 1 + m, none⟩ (.int .i64 0) := ⟨_, rfl⟩
    rw [← hw6]
    have O6 : Hid (Only [b4] wc w6) := Lib.hid (by rw [hw6]; exact ((Only.refl _ _).setCell (by simp) _).setCell (by simp) _)
    have S6 : Hid (w6.heap[b4]? = some (stO d' p6 m)) := Lib.hid (by
      rw [hw6]
      have e := blk_setCell (blk_setCell (show wc.heap[b4]? = some (.cells (stC d' p ((m + 1 : Nat) : Int)) 83 (0, 0)) from SB.out) 13 (.int .i64 m)) (1 + m) (.int .i64 0)
      rw [stC_size, stC_set _ _ _ _ _ (by omega), ← hp6] at e
      exact e)
    have R6 := Lib.hid (O6.out.keep RB.out (by simp; omega))
    have C6 := Lib.hid (O6.out.keep OB.out (by simp; omega))
    have v6 := O6.out.keepCell kq (by simp; omega)
    have hl64 := lt_of_blk S6.out
    have hl68 := lt_of_blk R6.out
    clear s0 s1 s2 s3 s4 s5 s6 s7 s8 s9 s10 s11 s12 s13 r0 r1 r2 r3 r4 r5 r6 r7 r8 r9 r10 r11 r12 r13 fs fr o0 o1 o2 o3 o4 o5
    clear hw6 cM hp6
    have s0 := cell_blk (show w6.heap[b4]? = some (.cells _ _ _) from S6.out) 0
    have s1 := cell_blk (show w6.heap[b4]? = some (.cells _ _ _) from S6.out) 1
    have s2 := cell_blk (show w6.heap[b4]? = some (.cells _ _ _) from S6.out) 2
    have s3 := cell_blk (show w6.heap[b4]? = some (.cells _ _ _) from S6.out) 3
    have s4 := cell_blk (show w6.heap[b4]? = some (.cells _ _ _) from S6.out) 4
    have s5 := cell_blk (show w6.heap[b4]? = some (.cells _ _ _) from S6.out) 5
    have s6 := cell_blk (show w6.heap[b4]? = some (.cells _ _ _) from S6.out) 6
    have s7 := cell_blk (show w6.heap[b4]? = some (.cells _ _ _) from S6.out) 7
    have s8 := cell_blk (show w6.heap[b4]? = some (.cells _ _ _) from S6.out) 8
    have s9 := cell_blk (show w6.heap[b4]? = some (.cells _ _ _) from S6.out) 9
    have s10 := cell_blk (show w6.heap[b4]? = some (.cells _ _ _) from S6.out) 10
    have s11 := cell_blk (show w6.heap[b4]? = some (.cells _ _ _) from S6.out) 11
    have s12 := cell_blk (show w6.heap[b4]? = some (.cells _ _ _) from S6.out) 12
    have s13 := cell_blk (show w6.heap[b4]? = some (.cells _ _ _) from S6.out) 13
    have fs := fun i => free_blk (show w6.heap[b4]? = some (.cells _ _ _) from S6.out) i
    simp [stC] at s0 s1 s2 s3 s4 s5 s6 s7 s8 s9 s10 s11 s12 s13
    have r0 := cell_blk (show w6.heap[b8]? = some (.cells _ _ _) from R6.out) 0
    have r1 := cell_blk (show w6.heap[b8]? = some (.cells _ _ _) from R6.out) 1
    have r2 := cell_blk (show w6.heap[b8]? = some (.cells _ _ _) from R6.out) 2
    have r3 := cell_blk (show w6.heap[b8]? = some (.cells _ _ _) from R6.out) 3
    have r4 := cell_blk (show w6.heap[b8]? = some (.cells _ _ _) from R6.out) 4
    have r5 := cell_blk (show w6.heap[b8]? = some (.cells _ _ _) from R6.out) 5
    have r6 := cell_blk (show w6.heap[b8]? = some (.cells _ _ _) from R6.out) 6
    have r7 := cell_blk (show w6.heap[b8]? = some (.cells _ _ _) from R6.out) 7
    have r8 := cell_blk (show w6.heap[b8]? = some (.cells _ _ _) from R6.out) 8
    have r9 := cell_blk (show w6.heap[b8]? = some (.cells _ _ _) from R6.out) 9
    have r10 := cell_blk (show w6.heap[b8]? = some (.cells _ _ _) from R6.out) 10
    have r11 := cell_blk (show w6.heap[b8]? = some (.cells _ _ _) from R6.out) 11
    have r12 := cell_blk (show w6.heap[b8]? = some (.cells _ _ _) from R6.out) 12
    have r13 := cell_blk (show w6.heap[b8]? = some (.cells _ _ _) from R6.out) 13
    have fr := fun i => free_blk (show w6.heap[b8]? = some (.cells _ _ _) from R6.out) i
    simp [stC] at r0 r1 r2 r3 r4 r5 r6 r7 r8 r9 r10 r11 r12 r13
    have o0 := cell_blk (C6.out) 0
    have o1 := cell_blk (C6.out) 1
    have o2 := cell_blk (C6.out) 2
    have o3 := cell_blk (C6.out) 3
    have o4 := cell_blk (C6.out) 4
    have o5 := cell_blk (C6.out) 5
    simp at o0 o1 o2 o3 o4 o5
    clear S6
    go_region
    all_goals
      go_wp2_with fail
      obtain ⟨W, hW⟩ : ∃ W, W = ((((((((((((((w6).setCell ⟨b8, 0, none⟩ (.int .u16 d')).setCell ⟨b8, 1, none⟩ (.int .i64 (p6 0))).setCell ⟨b8, 2, none⟩ (.int .i64 (p6 1))).setCell ⟨b8, 3, none⟩ (.int .i64 (p6 2))).setCell ⟨b8, 4, none⟩ (.int .i64 (p6 3))).setCell ⟨b8, 5, none⟩ (.int .i64 (p6 4))).setCell ⟨b8, 6, none⟩ (.int .i64 (p6 5))).setCell ⟨b8, 7, none⟩ (.int .i64 (p6 6))).setCell ⟨b8, 8, none⟩ (.int .i64 (p6 7))).setCell ⟨b8, 9, none⟩ (.int .i64 (p6 8))).setCell ⟨b8, 10, none⟩ (.int .i64 (p6 9))).setCell ⟨b8, 11, none⟩ (.int .i64 (p6 10))).setCell ⟨b8, 12, none⟩ (.int .i64 (p6 11))).setCell ⟨b8, 13, none⟩ (.int .i64 m) := ⟨_, rfl⟩
      rw [← hW]
      obtain ⟨hB, hOW⟩ := ap_blk R6.out hW
      replace hOW := hOW.drew
      have e0 := cell_blk (show W.drew.heap[b8]? = some (.cells _ _ _) from hB) 0
      have e1 := cell_blk (show W.drew.heap[b8]? = some (.cells _ _ _) from hB) 1
      have e2 := cell_blk (show W.drew.heap[b8]? = some (.cells _ _ _) from hB) 2
      have e3 := cell_blk (show W.drew.heap[b8]? = some (.cells _ _ _) from hB) 3
      have e4 := cell_blk (show W.drew.heap[b8]? = some (.cells _ _ _) from hB) 4
      have e5 := cell_blk (show W.drew.heap[b8]? = some (.cells _ _ _) from hB) 5
      have e6 := cell_blk (show W.drew.heap[b8]? = some (.cells _ _ _) from hB) 6
      have e7 := cell_blk (show W.drew.heap[b8]? = some (.cells _ _ _) from hB) 7
      have e8 := cell_blk (show W.drew.heap[b8]? = some (.cells _ _ _) from hB) 8
      have e9 := cell_blk (show W.drew.heap[b8]? = some (.cells _ _ _) from hB) 9
      have e10 := cell_blk (show W.drew.heap[b8]? = some (.cells _ _ _) from hB) 10
      have e11 := cell_blk (show W.drew.heap[b8]? = some (.cells _ _ _) from hB) 11
      have e12 := cell_blk (show W.drew.heap[b8]? = some (.cells _ _ _) from hB) 12
      have e13 := cell_blk (show W.drew.heap[b8]? = some (.cells _ _ _) from hB) 13
      simp [stC] at e0 e1 e2 e3 e4 e5 e6 e7 e8 e9 e10 e11 e12 e13
      refine bodyPost_ret (v := .tuple #[stA d' p6 m, .bool (vq == o.value)]) (by simp [results, Tryz.results36, go_sem, e0, e1, e2, e3, e4, e5, e6, e7, e8, e9, e10, e11, e12, e13, stA, stC]) rfl ⟨_, _, rfl, (PP.out.trans O6.out (by simp; omega)).trans hOW (by simp; omega), ⟨_, _, _, rfl⟩, ap_post HO.out ?_⟩
      rw [if_neg (fun h => k0 h.1), if_neg k0, if_neg c2, if_neg c4, if_neg (by omega), if_neg k2]; exact ⟨by rw [show m + 1 - 1 = m by omega, VQ.out]; rfl, by rw [show m + 1 - 1 = m by omega, ← HP6.out]; simp⟩

end Go.Proofs.YtfhkhknnoepfeaaGreat

/- A steal applied to a state, walked. (Written by wip/gen_histapply.py.) -/
namespace Go.Proofs.YtfhkhknnoepfeaaGreat
open Go.RowKit
set_option linter.unusedVariables false
set_option maxRecDepth 100000 in
set_option maxHeartbeats 8000000 in
theorem apply_steal (w : World) (ov : Value) (l : List HOp) (hv : OL w ov l) (d : Nat) (p : Nat → Int) (sz i : Nat) (cap : Int) (hi : i < l.length) (hn : l.length ≤ 12) (hd : d < 65536) (hsz : sz ≤ 12) (hroom : sz ≤ 11 ∨ ¬ (l.getD i HOp.zero).kind = 0) (hp : ∀ j, j < sz → ∃ q : Nat, p j = q ∧ q < l.length) (k0 : ¬ (l.getD i HOp.zero).kind = 0) (c2 : ¬ (l.getD i HOp.zero).code = 2) (c4 : ¬ (l.getD i HOp.zero).code = 4) (z0 : ¬ sz = 0) (k2 : (l.getD i HOp.zero).kind = 2) :
    Calls Tryz.prog 36 #[stA d p sz, ov, .int .i64 i, .int .i64 cap] w (ApRes w l ((d ||| 1 <<< i : Nat) : Int) p sz i cap) := by
  obtain ⟨ao, c1, rfl, hc, g1⟩ := hv
  obtain ⟨n, hnn⟩ : ∃ n, n = l.length := ⟨_, rfl⟩
  rw [← hnn] at hn hc g1 hi hp ⊢
  obtain ⟨b, off, rfl, hcs⟩ := g1 (by omega)
  have e1 := hcs i hi
  obtain ⟨o, ho⟩ : ∃ o, o = l.getD i HOp.zero := ⟨_, rfl⟩
  have HO := Lib.hid ho
  rw [← ho] at e1 hroom k0 c2 c4 k2
  unfold OpAt at e1
  obtain ⟨a0, a1, a2, a3, a4, a5⟩ := e1
  have hS2 : 1 <<< i < 65536 := by
    rw [Nat.shiftLeft_eq, Nat.one_mul]
    have : 2 ^ i ≤ 2 ^ 12 := Nat.pow_le_pow_right (by omega) (by omega)
    omega
  have hsh : bits BinOp.or IntKind.u16 (d : Int) (IntKind.u16.wrap ((2 : Int) ^ i)) = ((d ||| 1 <<< i : Nat) : Int) := by
    have e2 : ((2 : Int) ^ i) = ((1 <<< i : Nat) : Int) := by rw [Nat.shiftLeft_eq, Nat.one_mul]; simp
    rw [e2, wrap_u16_nat _ hS2, bits_or_u16_nat _ _ hd hS2]
  obtain ⟨d', hd'⟩ : ∃ d' : Int, d' = ((d ||| 1 <<< i : Nat) : Int) := ⟨_, rfl⟩
  rw [← hd'] at hsh ⊢
  have CS := Lib.hid hcs
  have HP := Lib.hid hp
  have HRM := Lib.hid hroom
  have hbl := lt_of_cell a0
  simp at hbl
  have K2 := Lib.hid k2
  clear hcs ho g1 hp hd' hroom k2
  go_enter Tryz.func36, Tryz.ntmps36
  simp only [stA, stC]
  go_upto_region 2 with fail
  go_cut [] (fun wx => ApB w wx w.heap.size (w.heap.size + 1) (w.heap.size + 1 + 1) d' p sz o)
  case first =>
    go_wp2_with fail
    go_meet
    have n1 := blk_alloc_new w (stO d' p sz)
    have n2 := blk_alloc_new (w.alloc (stO d' p sz)) (stO 0 (fun _ => 0) 0)
    have n3 := blk_alloc_new ((w.alloc (stO d' p sz)).alloc (stO 0 (fun _ => 0) 0)) (.cells #[.int .i64 o.kind, .int .i64 o.mach, .int .i64 o.frm, .int .i64 o.to, .int .i64 o.code, .int .i64 o.value] 36)
    rw [show (w.alloc (stO d' p sz)).heap.size = w.heap.size + 1 by simp] at n2
    rw [show ((w.alloc (stO d' p sz)).alloc (stO 0 (fun _ => 0) 0)).heap.size = w.heap.size + 1 + 1 by simp] at n3
    refine ⟨?_, ⟨0, fun _ => 0, 0, ?_⟩, n3, by omega, (((Only.refl _ _).alloc _).alloc _).alloc _, by omega⟩
    · exact (blk_alloc_old (by simp; omega) _).trans ((blk_alloc_old (by simp) _).trans n1)
    · exact (blk_alloc_old (by simp) _).trans n2
  case rest =>
    obtain ⟨hS, ⟨d0, p0, z0, hR⟩, hO, hne, hP, hlo⟩ := hcut
    generalize w.heap.size + 1 + 1 = b10 at *
    generalize w.heap.size + 1 = b8 at *
    generalize hb4 : w.heap.size = b4 at *
    obtain ⟨ne1, ne2, ne3⟩ := hne
    have SB := Lib.hid hS
    have RB := Lib.hid hR
    have OB := Lib.hid hO
    have PP := Lib.hid hP
    have s0 := cell_blk (show wc.heap[b4]? = some (.cells _ _ _) from hS) 0
    have s1 := cell_blk (show wc.heap[b4]? = some (.cells _ _ _) from hS) 1
    have s2 := cell_blk (show wc.heap[b4]? = some (.cells _ _ _) from hS) 2
    have s3 := cell_blk (show wc.heap[b4]? = some (.cells _ _ _) from hS) 3
    have s4 := cell_blk (show wc.heap[b4]? = some (.cells _ _ _) from hS) 4
    have s5 := cell_blk (show wc.heap[b4]? = some (.cells _ _ _) from hS) 5
    have s6 := cell_blk (show wc.heap[b4]? = some (.cells _ _ _) from hS) 6
    have s7 := cell_blk (show wc.heap[b4]? = some (.cells _ _ _) from hS) 7
    have s8 := cell_blk (show wc.heap[b4]? = some (.cells _ _ _) from hS) 8
    have s9 := cell_blk (show wc.heap[b4]? = some (.cells _ _ _) from hS) 9
    have s10 := cell_blk (show wc.heap[b4]? = some (.cells _ _ _) from hS) 10
    have s11 := cell_blk (show wc.heap[b4]? = some (.cells _ _ _) from hS) 11
    have s12 := cell_blk (show wc.heap[b4]? = some (.cells _ _ _) from hS) 12
    have s13 := cell_blk (show wc.heap[b4]? = some (.cells _ _ _) from hS) 13
    have fs := fun i => free_blk (show wc.heap[b4]? = some (.cells _ _ _) from hS) i
    simp [stC] at s0 s1 s2 s3 s4 s5 s6 s7 s8 s9 s10 s11 s12 s13
    have r0 := cell_blk (show wc.heap[b8]? = some (.cells _ _ _) from hR) 0
    have r1 := cell_blk (show wc.heap[b8]? = some (.cells _ _ _) from hR) 1
    have r2 := cell_blk (show wc.heap[b8]? = some (.cells _ _ _) from hR) 2
    have r3 := cell_blk (show wc.heap[b8]? = some (.cells _ _ _) from hR) 3
    have r4 := cell_blk (show wc.heap[b8]? = some (.cells _ _ _) from hR) 4
    have r5 := cell_blk (show wc.heap[b8]? = some (.cells _ _ _) from hR) 5
    have r6 := cell_blk (show wc.heap[b8]? = some (.cells _ _ _) from hR) 6
    have r7 := cell_blk (show wc.heap[b8]? = some (.cells _ _ _) from hR) 7
    have r8 := cell_blk (show wc.heap[b8]? = some (.cells _ _ _) from hR) 8
    have r9 := cell_blk (show wc.heap[b8]? = some (.cells _ _ _) from hR) 9
    have r10 := cell_blk (show wc.heap[b8]? = some (.cells _ _ _) from hR) 10
    have r11 := cell_blk (show wc.heap[b8]? = some (.cells _ _ _) from hR) 11
    have r12 := cell_blk (show wc.heap[b8]? = some (.cells _ _ _) from hR) 12
    have r13 := cell_blk (show wc.heap[b8]? = some (.cells _ _ _) from hR) 13
    have fr := fun i => free_blk (show wc.heap[b8]? = some (.cells _ _ _) from hR) i
    simp [stC] at r0 r1 r2 r3 r4 r5 r6 r7 r8 r9 r10 r11 r12 r13
    have o0 := cell_blk hO 0
    have o1 := cell_blk hO 1
    have o2 := cell_blk hO 2
    have o3 := cell_blk hO 3
    have o4 := cell_blk hO 4
    have o5 := cell_blk hO 5
    simp at o0 o1 o2 o3 o4 o5
    have hl4 := lt_of_blk hS
    have hl8 := lt_of_blk hR
    have k5 := hP.keepCell a5 (by simp)
    have hl48 := hlo.2
    clear hS hR hO hP hlo
    have kb0 : (o.kind == 0) = false := by simpa using k0
    have cb2 : (o.code == 2) = false := by simpa using c2
    have cb4 : (o.code == 4) = false := by simpa using c4
    obtain ⟨m, rfl⟩ : ∃ m, sz = m + 1 := ⟨sz - 1, by omega⟩
    obtain ⟨q, hq, hqn⟩ := HP.out 0 (by omega)
    have cM : wc.cell? ⟨b4, 1 + m, none⟩ = some (.int .i64 (p m)) := by rw [cell_blk (show wc.heap[b4]? = some (.cells _ _ _) from SB.out)]; exact stC_get _ _ _ _ (by omega)
    obtain ⟨vq, hvq⟩ : ∃ vq, vq = (l.getD q HOp.zero).value := ⟨_, rfl⟩
    have kq := PP.out.keepCell (show w.cell? ⟨b, off + q * 6 + 5, none⟩ = some (.int .i64 vq) from by rw [hvq]; exact (CS.out q hqn).2.2.2.2.2) (by simp)
    have hqv : (p 0).toNat = q := by rw [hq]; omega
    have VQ := Lib.hid (show (l.getD (p 0).toNat HOp.zero).value = vq from by rw [hqv, hvq])
    have HQ := Lib.hid hq
    clear hvq hqv
    have kb2 : (o.kind == 2) = true := by simpa using K2.out
    have c1' : wc.cell? ⟨b4, 1, none⟩ = some (.int .i64 q) := by rw [s1, HQ.out]
    obtain ⟨wd, hwd⟩ : ∃ wd, wd = (wc.setCell ⟨b4, 13, none⟩ (.int .i64 m)).drew := ⟨_, rfl⟩
    have hSd : wd.heap[b4]? = some (stO d' p m) := by
      rw [hwd]
      have e := blk_setCell (show wc.heap[b4]? = some (.cells (stC d' p ((m + 1 : Nat) : Int)) 83 (0, 0)) from SB.out) 13 (.int .i64 m)
      rw [stC_size] at e
      exact e
    obtain ⟨w5, hcopy, hS5, hO5⟩ := ap_copy 3 hSd
    have Od : Only [b4] wc wd := by rw [hwd]; exact ((Only.refl _ _).setCell (by simp) _).drew
    have S5 := Lib.hid hS5
    have O5 := Lib.hid (Od.trans hO5 (by simp))
    rw [hwd] at hcopy
    have hp6m : Hid (∀ a b c : Int, (stC a (fun j => if j < 11 then p (j + 1) else p j) b)[1 + m]? = some (.int .i64 (if m < 11 then p (m + 1) else p m))) := Lib.hid (fun a b c => stC_get _ _ _ _ (by omega))
    have cN : w5.cell? ⟨b4, 1 + m, none⟩ = some (.int .i64 (if m < 11 then p (m + 1) else p m)) := by rw [cell_blk (show w5.heap[b4]? = some (.cells _ _ _) from hS5)]; exact stC_get _ _ _ _ (by omega)
    obtain ⟨cv, hcv⟩ : ∃ cv, cv = (if m < 11 then p (m + 1) else p m) := ⟨_, rfl⟩
    rw [← hcv] at cN
    have c13 : w5.cell? ⟨b4, 13, none⟩ = some (.int .i64 m) := by rw [cell_blk (show w5.heap[b4]? = some (.cells _ _ _) from hS5)]; rfl
    have f5 := fun i => free_blk (show w5.heap[b4]? = some (.cells _ _ _) from hS5) i
    obtain ⟨p6, hp6⟩ : ∃ p6 : Nat → Int, p6 = fun j => if j = m then (0 : Int) else if j < 11 then p (j + 1) else p j := ⟨_, rfl⟩
    have HP6 := Lib.hid hp6
    clear hcv hp6m hS5 hO5 Od hwd hSd
    go_upto_region 21 with fail
    go_region
    go_upto_region 23 with fail
    obtain ⟨w6, hw6⟩ : ∃ w6, w6 = w5.setCell ⟨b4, 1 + m, none⟩ (.int .i64 0) := ⟨_, rfl⟩
    rw [← hw6]
    have O6 : Hid (Only [b4] wc w6) := Lib.hid (by rw [hw6]; exact O5.out.setCell (by simp) _)
    have S6 : Hid (w6.heap[b4]? = some (stO d' p6 m)) := Lib.hid (by
      rw [hw6]
      have e := blk_setCell (show w5.heap[b4]? = some (.cells (stC d' (fun j => if j < 11 then p (j + 1) else p j) m) 83 (0, 0)) from S5.out) (1 + m) (.int .i64 0)
      rw [stC_set _ _ _ _ _ (by omega), ← HP6.out] at e
      exact e)
    have R6 := Lib.hid (O6.out.keep RB.out (by simp; omega))
    have C6 := Lib.hid (O6.out.keep OB.out (by simp; omega))
    have v6 := O6.out.keepCell kq (by simp; omega)
    have hl64 := lt_of_blk S6.out
    have hl68 := lt_of_blk R6.out
    clear s0 s1 s2 s3 s4 s5 s6 s7 s8 s9 s10 s11 s12 s13 r0 r1 r2 r3 r4 r5 r6 r7 r8 r9 r10 r11 r12 r13 fs fr o0 o1 o2 o3 o4 o5
    clear hw6 cM hp6 cN c13 f5 hcopy c1'
    have s0 := cell_blk (show w6.heap[b4]? = some (.cells _ _ _) from S6.out) 0
    have s1 := cell_blk (show w6.heap[b4]? = some (.cells _ _ _) from S6.out) 1
    have s2 := cell_blk (show w6.heap[b4]? = some (.cells _ _ _) from S6.out) 2
    have s3 := cell_blk (show w6.heap[b4]? = some (.cells _ _ _) from S6.out) 3
    have s4 := cell_blk (show w6.heap[b4]? = some (.cells _ _ _) from S6.out) 4
    have s5 := cell_blk (show w6.heap[b4]? = some (.cells _ _ _) from S6.out) 5
    have s6 := cell_blk (show w6.heap[b4]? = some (.cells _ _ _) from S6.out) 6
    have s7 := cell_blk (show w6.heap[b4]? = some (.cells _ _ _) from S6.out) 7
    have s8 := cell_blk (show w6.heap[b4]? = some (.cells _ _ _) from S6.out) 8
    have s9 := cell_blk (show w6.heap[b4]? = some (.cells _ _ _) from S6.out) 9
    have s10 := cell_blk (show w6.heap[b4]? = some (.cells _ _ _) from S6.out) 10
    have s11 := cell_blk (show w6.heap[b4]? = some (.cells _ _ _) from S6.out) 11
    have s12 := cell_blk (show w6.heap[b4]? = some (.cells _ _ _) from S6.out) 12
    have s13 := cell_blk (show w6.heap[b4]? = some (.cells _ _ _) from S6.out) 13
    have fs := fun i => free_blk (show w6.heap[b4]? = some (.cells _ _ _) from S6.out) i
    simp [stC] at s0 s1 s2 s3 s4 s5 s6 s7 s8 s9 s10 s11 s12 s13
    have r0 := cell_blk (show w6.heap[b8]? = some (.cells _ _ _) from R6.out) 0
    have r1 := cell_blk (show w6.heap[b8]? = some (.cells _ _ _) from R6.out) 1
    have r2 := cell_blk (show w6.heap[b8]? = some (.cells _ _ _) from R6.out) 2
    have r3 := cell_blk (show w6.heap[b8]? = some (.cells _ _ _) from R6.out) 3
    have r4 := cell_blk (show w6.heap[b8]? = some (.cells _ _ _) from R6.out) 4
    have r5 := cell_blk (show w6.heap[b8]? = some (.cells _ _ _) from R6.out) 5
    have r6 := cell_blk (show w6.heap[b8]? = some (.cells _ _ _) from R6.out) 6
    have r7 := cell_blk (show w6.heap[b8]? = some (.cells _ _ _) from R6.out) 7
    have r8 := cell_blk (show w6.heap[b8]? = some (.cells _ _ _) from R6.out) 8
    have r9 := cell_blk (show w6.heap[b8]? = some (.cells _ _ _) from R6.out) 9
    have r10 := cell_blk (show w6.heap[b8]? = some (.cells _ _ _) from R6.out) 10
    have r11 := cell_blk (show w6.heap[b8]? = some (.cells _ _ _) from R6.out) 11
    have r12 := cell_blk (show w6.heap[b8]? = some (.cells _ _ _) from R6.out) 12
    have r13 := cell_blk (show w6.heap[b8]? = some (.cells _ _ _) from R6.out) 13
    have fr := fun i => free_blk (show w6.heap[b8]? = some (.cells _ _ _) from R6.out) i
    simp [stC] at r0 r1 r2 r3 r4 r5 r6 r7 r8 r9 r10 r11 r12 r13
    have o0 := cell_blk (C6.out) 0
    have o1 := cell_blk (C6.out) 1
    have o2 := cell_blk (C6.out) 2
    have o3 := cell_blk (C6.out) 3
    have o4 := cell_blk (C6.out) 4
    have o5 := cell_blk (C6.out) 5
    simp at o0 o1 o2 o3 o4 o5
    clear S6
    go_region
    all_goals
      go_wp2_with fail
      obtain ⟨W, hW⟩ : ∃ W, W = ((((((((((((((w6).setCell ⟨b8, 0, none⟩ (.int .u16 d')).setCell ⟨b8, 1, none⟩ (.int .i64 (p6 0))).setCell ⟨b8, 2, none⟩ (.int .i64 (p6 1))).setCell ⟨b8, 3, none⟩ (.int .i64 (p6 2))).setCell ⟨b8, 4, none⟩ (.int .i64 (p6 3))).setCell ⟨b8, 5, none⟩ (.int .i64 (p6 4))).setCell ⟨b8, 6, none⟩ (.int .i64 (p6 5))).setCell ⟨b8, 7, none⟩ (.int .i64 (p6 6))).setCell ⟨b8, 8, none⟩ (.int .i64 (p6 7))).setCell ⟨b8, 9, none⟩ (.int .i64 (p6 8))).setCell ⟨b8, 10, none⟩ (.int .i64 (p6 9))).setCell ⟨b8, 11, none⟩ (.int .i64 (p6 10))).setCell ⟨b8, 12, none⟩ (.int .i64 (p6 11))).setCell ⟨b8, 13, none⟩ (.int .i64 m) := ⟨_, rfl⟩
      rw [← hW]
      obtain ⟨hB, hOW⟩ := ap_blk R6.out hW
      replace hOW := hOW.drew
      have e0 := cell_blk (show W.drew.heap[b8]? = some (.cells _ _ _) from hB) 0
      have e1 := cell_blk (show W.drew.heap[b8]? = some (.cells _ _ _) from hB) 1
      have e2 := cell_blk (show W.drew.heap[b8]? = some (.cells _ _ _) from hB) 2
      have e3 := cell_blk (show W.drew.heap[b8]? = some (.cells _ _ _) from hB) 3
      have e4 := cell_blk (show W.drew.heap[b8]? = some (.cells _ _ _) from hB) 4
      have e5 := cell_blk (show W.drew.heap[b8]? = some (.cells _ _ _) from hB) 5
      have e6 := cell_blk (show W.drew.heap[b8]? = some (.cells _ _ _) from hB) 6
      have e7 := cell_blk (show W.drew.heap[b8]? = some (.cells _ _ _) from hB) 7
      have e8 := cell_blk (show W.drew.heap[b8]? = some (.cells _ _ _) from hB) 8
      have e9 := cell_blk (show W.drew.heap[b8]? = some (.cells _ _ _) from hB) 9
      have e10 := cell_blk (show W.drew.heap[b8]? = some (.cells _ _ _) from hB) 10
      have e11 := cell_blk (show W.drew.heap[b8]? = some (.cells _ _ _) from hB) 11
      have e12 := cell_blk (show W.drew.heap[b8]? = some (.cells _ _ _) from hB) 12
      have e13 := cell_blk (show W.drew.heap[b8]? = some (.cells _ _ _) from hB) 13
      simp [stC] at e0 e1 e2 e3 e4 e5 e6 e7 e8 e9 e10 e11 e12 e13
      refine bodyPost_ret (v := .tuple #[stA d' p6 m, .bool (vq == o.value)]) (by simp [results, Tryz.results36, go_sem, e0, e1, e2, e3, e4, e5, e6, e7, e8, e9, e10, e11, e12, e13, stA, stC]) rfl ⟨_, _, rfl, (PP.out.trans O6.out (by simp; omega)).trans hOW (by simp; omega), ⟨_, _, _, rfl⟩, ap_post HO.out ?_⟩
      rw [if_neg (fun h => k0 h.1), if_neg k0, if_neg c2, if_neg c4, if_neg (by omega), if_pos K2.out]; exact ⟨by rw [VQ.out]; rfl, by rw [show m + 1 - 1 = m by omega, ← HP6.out]; simp⟩

end Go.Proofs.YtfhkhknnoepfeaaGreat

/- States as keys; operations on lists of places, walked. -/
namespace Go.Proofs.YtfhkhknnoepfeaaGreat
open Go.RowKit Go.ChangeMaps Go.MapKept Go.Maps
open Go.Maps (Keyed)
set_option linter.unusedVariables false

theorem wideSt : (match Tryz.prog.underlying 83 with | some (.array _ _) | some (.struct _) => true | _ => false) = true := by kernel_rfl
set_option maxRecDepth 100000 in
theorem lawSt0 : WideMaps.KeyLaw Tryz.prog 83 := deep_law (m := 3) (by omega) (by kernel_rfl) (by kernel_rfl) wideSt
theorem lawSt : Keyed Tryz.prog 83 := Keyed.of_law lawSt0

theorem keyT : Tryz.prog.keyType 83 = true := by kernel_rfl
theorem wfi {x : Int} (h : inI x) : (Lit.int .i64 x).wf = true := by
  obtain ⟨h1, h2⟩ := h
  simp [Lit.wf, IntKind.min, IntKind.max, IntKind.signed, IntKind.bits]; omega
theorem wf16 {x : Int} (h : 0 ≤ x ∧ x < 65536) : (Lit.int .u16 x).wf = true := by
  simp [Lit.wf, IntKind.min, IntKind.max, IntKind.signed, IntKind.bits]; omega
theorem formedSt (d : Int) (p : Nat → Int) (sz : Int) : (stA d p sz).formed Tryz.prog 83 = true := by kernel_rfl

theorem kl_int (k : Nat) {x : Int} (h : (Lit.int .i64 x).wf = true) : Tryz.prog.keyLits (k + 1) 3 [.int .i64 x] = some [.int .i64 x] := by
  unfold Program.keyLits
  rw [Tryz.underlying3]
  simp [h]
theorem kl_u16 (k : Nat) {x : Int} (h : (Lit.int .u16 x).wf = true) : Tryz.prog.keyLits (k + 1) 80 [.int .u16 x] = some [.int .u16 x] := by
  unfold Program.keyLits
  rw [Tryz.underlying80]
  simp [h]
theorem cellsInt : Tryz.prog.cellsOf 3 = 1 := by kernel_rfl
theorem cells16 : Tryz.prog.cellsOf 80 = 1 := by kernel_rfl
theorem cellsArr : Tryz.prog.cellsOf 81 = 12 := by kernel_rfl
theorem cellsSt : Tryz.prog.cellsOf 83 = 14 := by kernel_rfl

theorem kl_arr (k : Nat) {p : Nat → Int} (h : ∀ j, (Lit.int .i64 (p j)).wf = true) : ∃ ls, Tryz.prog.keyLits (k + 1 + 1) 81 [.int .i64 (p 0), .int .i64 (p 1), .int .i64 (p 2), .int .i64 (p 3), .int .i64 (p 4), .int .i64 (p 5), .int .i64 (p 6), .int .i64 (p 7), .int .i64 (p 8), .int .i64 (p 9), .int .i64 (p 10), .int .i64 (p 11)] = some ls := by
  unfold Program.keyLits
  rw [Tryz.underlying81]
  simp only [cellsArr, cellsInt, List.length_cons, List.length_nil, Nat.zero_add, Nat.reduceAdd, if_true]
  rw [show List.range 12 = [0, 1, 2, 3, 4, 5, 6, 7, 8, 9, 10, 11] from rfl]
  simp only [List.mapM_cons, List.mapM_nil, Nat.mul_one, List.drop_succ_cons, List.drop_zero, List.take_succ_cons, List.take_zero, kl_int k (h _)]
  exact ⟨_, rfl⟩

theorem key_st {d sz : Int} {p : Nat → Int} (hd : 0 ≤ d ∧ d < 65536) (hp : ∀ j, inI (p j)) (hs : inI sz) : ∃ kl, keyOf Tryz.prog 83 (stA d p sz) = some kl := by
  have h0 := wf16 hd
  have h1 := fun j => wfi (hp j)
  have h2 := wfi hs
  have hl : ∃ ls, Tryz.prog.keyLits (Tryz.prog.types.size + 1) 83 (stC d p sz).toList = some ls := by
    obtain ⟨la, hla⟩ := kl_arr (Tryz.prog.types.size - 2) h1
    rw [show Tryz.prog.types.size + 1 = (Tryz.prog.types.size - 2) + 1 + 1 + 1 from by kernel_rfl]
    unfold Program.keyLits
    rw [Tryz.underlying83]
    simp only [cellsSt, stC]
    rw [if_pos ⟨rfl, by simp⟩]
    simp only [List.mapM_cons, List.mapM_nil, cells16, cellsArr, cellsInt, List.drop_succ_cons, List.drop_zero, List.take_succ_cons, List.take_zero, kl_u16 _ h0, kl_int _ h2]
    rw [hla]
    exact ⟨_, rfl⟩
  obtain ⟨ls, hl⟩ := hl
  refine ⟨.string (keyBytes ls), ?_⟩
  unfold keyOf
  rw [Tryz.underlying83]
  simp only [keyT, formedSt, Bool.and_self, if_true]
  show (Program.keyLits _ _ _ (stC d p sz).toList).map _ = _
  rw [hl]
  rfl

theorem apply_any (w : World) (ov : Value) (l : List HOp) (hv : OL w ov l) (d : Nat) (p : Nat → Int) (sz i : Nat) (cap : Int) (hi : i < l.length) (hn : l.length ≤ 12) (hd : d < 65536) (hsz : sz ≤ 12) (hroom : sz ≤ 11 ∨ ¬ (l.getD i HOp.zero).kind = 0) (hp : ∀ j, j < sz → ∃ q : Nat, p j = q ∧ q < l.length) :
    Calls Tryz.prog 36 #[stA d p sz, ov, .int .i64 i, .int .i64 cap] w (ApRes w l ((d ||| 1 <<< i : Nat) : Int) p sz i cap) := by
  by_cases h : (l.getD i HOp.zero).kind = 0 ∨ (l.getD i HOp.zero).code = 2 ∨ (l.getD i HOp.zero).code = 4 ∨ sz = 0
  · exact apply_rest w ov l hv d p sz i cap hi hn hd hsz hroom hp h
  · have h1 : ¬ (l.getD i HOp.zero).kind = 0 := fun e => h (.inl e)
    have h2 : ¬ (l.getD i HOp.zero).code = 2 := fun e => h (.inr (.inl e))
    have h3 : ¬ (l.getD i HOp.zero).code = 4 := fun e => h (.inr (.inr (.inl e)))
    have h4 : ¬ sz = 0 := fun e => h (.inr (.inr (.inr e)))
    by_cases k2 : (l.getD i HOp.zero).kind = 2
    · exact apply_steal w ov l hv d p sz i cap hi hn hd hsz hroom hp h1 h2 h3 h4 k2
    · exact apply_pop w ov l hv d p sz i cap hi hn hd hsz hroom hp h1 h2 h3 h4 k2

theorem plc_push (L : List Nat) (i : Nat) : (fun j => if j = L.length then ((i : Nat) : Int) else plc L j) = plc (L ++ [i]) := by
  funext j
  unfold plc
  by_cases h : j = L.length
  · subst h; simp
  · rw [if_neg h]
    by_cases h2 : j < L.length
    · simp [List.getD_eq_getElem?_getD, List.getElem?_append_left h2]
    · have h3 : L.length + 1 ≤ j := by omega
      simp [List.getD_eq_getElem?_getD, List.getElem?_eq_none (show L.length ≤ j by omega), List.getElem?_eq_none (show (L ++ [i]).length ≤ j by simp; omega)]
theorem plc_pop (L : List Nat) : (fun j => if j = L.length - 1 then (0 : Int) else plc L j) = plc L.dropLast := by
  funext j
  unfold plc
  by_cases h : j = L.length - 1
  · rw [if_pos h, List.getD_eq_getElem?_getD, List.getElem?_eq_none (by simp; omega)]; rfl
  · rw [if_neg h]
    by_cases h2 : j < L.length
    · rw [List.getD_eq_getElem?_getD, List.getD_eq_getElem?_getD, List.getElem?_dropLast, if_pos (by omega)]
    · rw [List.getD_eq_getElem?_getD, List.getD_eq_getElem?_getD, List.getElem?_eq_none (by omega), List.getElem?_eq_none (by simp; omega)]
theorem plc_steal (L : List Nat) (hl : L.length ≤ 12) : (fun j => if j = L.length - 1 then (0 : Int) else if j < 11 then plc L (j + 1) else plc L j) = plc L.tail := by
  funext j
  unfold plc
  have ht : L.tail.getD j 0 = L.getD (j + 1) 0 := by
    rw [List.getD_eq_getElem?_getD, List.getD_eq_getElem?_getD, List.getElem?_tail]
  rw [ht]
  by_cases h : j = L.length - 1
  · rw [if_pos h, List.getD_eq_getElem?_getD, List.getElem?_eq_none (by omega)]; rfl
  · rw [if_neg h]
    by_cases h2 : j < 11
    · rw [if_pos h2]
    · rw [if_neg h2, List.getD_eq_getElem?_getD, List.getD_eq_getElem?_getD, List.getElem?_eq_none (by omega), List.getElem?_eq_none (by omega)]
theorem plc_head (L : List Nat) : (plc L 0).toNat = L.headD 0 := by
  unfold plc
  cases L <;> simp
theorem plc_last (L : List Nat) : (plc L (L.length - 1)).toNat = L.getLastD 0 := by
  unfold plc
  rw [List.getLastD_eq_getLast?, List.getLast?_eq_getElem?, List.getD_eq_getElem?_getD]
  simp

theorem ap_places {l : List HOp} {d : Int} {L : List Nat} {i : Nat} {cap : Int} {v : Value} {ok : Bool} (hl : L.length ≤ 12) (h : ApPost l d (plc L) L.length i cap v ok) :
    (ok = true ∧ ∃ L', plAct (fun a => l.getD a HOp.zero) i L cap = some L' ∧ v = stA d (plc L') L'.length) ∨ (ok = false ∧ plAct (fun a => l.getD a HOp.zero) i L cap = none) := by
  unfold ApPost at h
  unfold plAct
  simp only
  split at h
  · next hc =>
    rw [if_pos hc]
    split at h
    · next h2 =>
      rw [if_pos h2]
      obtain ⟨rfl, rfl⟩ := h
      refine .inl ⟨rfl, _, rfl, ?_⟩
      rw [plc_push]; simp
    · next h2 =>
      rw [if_neg h2]
      exact .inr ⟨h, rfl⟩
  · next hc =>
    rw [if_neg hc]
    split at h
    · next h2 =>
      rw [if_pos h2]
      obtain ⟨rfl, rfl⟩ := h
      by_cases h3 : cap ≤ (L.length : Int)
      · rw [if_pos h3]; exact .inl ⟨decide_eq_true h3, L, rfl, rfl⟩
      · rw [if_neg h3]; exact .inr ⟨decide_eq_false h3, rfl⟩
    · next h2 =>
      rw [if_neg h2]
      split at h
      · next h3 =>
        rw [if_pos h3]
        obtain ⟨rfl, rfl⟩ := h
        by_cases h4 : L = []
        · rw [if_pos h4]; exact .inl ⟨by rw [h4]; rfl, L, rfl, rfl⟩
        · rw [if_neg h4]
          have : ¬ L.length = 0 := fun e => h4 (List.eq_nil_of_length_eq_zero e)
          exact .inr ⟨decide_eq_false this, rfl⟩
      · next h3 =>
        rw [if_neg h3]
        split at h
        · next h4 =>
          rw [if_pos h4]
          obtain ⟨rfl, rfl⟩ := h
          exact .inl ⟨rfl, L, rfl, rfl⟩
        · next h4 =>
          rw [if_neg h4]
          split at h
          · next h5 =>
            rw [if_pos (List.eq_nil_of_length_eq_zero h5)]
            exact .inr ⟨h, rfl⟩
          · next h5 =>
            rw [if_neg (fun e => h5 (by rw [e]; rfl))]
            split at h
            · next h6 =>
              rw [if_pos h6]
              obtain ⟨h7, rfl⟩ := h
              rw [plc_head] at h7
              by_cases h8 : (l.getD (L.headD 0) HOp.zero).value = (l.getD i HOp.zero).value
              · rw [if_pos h8]
                refine .inl ⟨by rw [h7]; exact decide_eq_true h8, _, rfl, ?_⟩
                rw [plc_steal L hl, List.length_tail]
                congr 1; omega
              · rw [if_neg h8]; exact .inr ⟨by rw [h7]; exact decide_eq_false h8, rfl⟩
            · next h6 =>
              rw [if_neg h6]
              obtain ⟨h7, rfl⟩ := h
              rw [plc_last] at h7
              by_cases h8 : (l.getD (L.getLastD 0) HOp.zero).value = (l.getD i HOp.zero).value
              · rw [if_pos h8]
                refine .inl ⟨by rw [h7]; exact decide_eq_true h8, _, rfl, ?_⟩
                rw [plc_pop L, List.length_dropLast]
                congr 1; omega
              · rw [if_neg h8]; exact .inr ⟨by rw [h7]; exact decide_eq_false h8, rfl⟩

/-- What apply comes to, with lists of places. -/
theorem apply_places (w : World) (ov : Value) (l : List HOp) (hv : OL w ov l) (d : Nat) (L : List Nat) (i : Nat) (cap : Int) (hi : i < l.length) (hn : l.length ≤ 12) (hd : d < 65536) (hL : L.length ≤ 11) (hp : ∀ q ∈ L, q < l.length) :
    Calls Tryz.prog 36 #[stV d L, ov, .int .i64 i, .int .i64 cap] w fun e w' => ∃ v ok, e = .returned (.tuple #[v, .bool ok]) ∧ Only [] w w' ∧ (∃ a b c, v = stA a b c) ∧ ((ok = true ∧ ∃ L', plAct (fun a => l.getD a HOp.zero) i L cap = some L' ∧ v = stV (d ||| 1 <<< i) L') ∨ (ok = false ∧ plAct (fun a => l.getD a HOp.zero) i L cap = none)) := by
  refine (apply_any w ov l hv d (plc L) L.length i cap hi hn hd (by omega) (.inl hL) (fun j hj => ⟨L.getD j 0, rfl, hp _ (by rw [List.getD_eq_getElem?_getD, List.getElem?_eq_getElem hj]; exact List.getElem_mem hj)⟩)).mono ?_
  rintro e w' ⟨v, ok, h1, h2, h4, h3⟩
  exact ⟨v, ok, h1, h2, h4, ap_places (by omega) h3⟩
end Go.Proofs.YtfhkhknnoepfeaaGreat

/- Words of sixteen bits as sets, in plain Lean. No condition. -/
namespace Go.Proofs.YtfhkhknnoepfeaaGreat
open Go.RowKit

theorem bits_and_u16_nat (a b : Nat) (ha : a < 65536) (hb : b < 65536) : bits .and .u16 (a : Int) (b : Int) = ((a &&& b : Nat) : Int) := by
  have hx : a &&& b < 2 ^ 16 := Nat.and_lt_two_pow _ (by omega)
  have h1 : (BitVec.ofInt 16 (a : Int)).toNat = a := by
    rw [BitVec.ofInt_natCast, BitVec.toNat_ofNat]; exact Nat.mod_eq_of_lt (by omega)
  have h2 : (BitVec.ofInt 16 (b : Int)).toNat = b := by
    rw [BitVec.ofInt_natCast, BitVec.toNat_ofNat]; exact Nat.mod_eq_of_lt (by omega)
  show IntKind.u16.wrap ((BitVec.ofInt 16 (a : Int) &&& BitVec.ofInt 16 (b : Int)).toNat : Int) = _
  rw [BitVec.toNat_and, h1, h2]
  exact wrap_u16_nat _ (by omega)

theorem shr_bit (d j : Nat) (hd : d < 65536) (hj : j < 16) : (bits .and .u16 ((d : Int) / 2 ^ min (IntKind.u64.wrap (j : Int)).toNat 16) 1 == 1) = d.testBit j := by
  have hw : IntKind.u64.wrap (j : Int) = j := by rw [IntKind.wrap_u64]; omega
  rw [hw]
  have hm : min ((j : Int)).toNat 16 = j := by omega
  rw [hm]
  have e1 : (d : Int) / 2 ^ j = ((d / 2 ^ j : Nat) : Int) := by simp
  have e2 : (1 : Int) = ((1 : Nat) : Int) := rfl
  have hq : d / 2 ^ j < 65536 := Nat.lt_of_le_of_lt (Nat.div_le_self _ _) hd
  rw [e1]
  rw [show bits .and .u16 ((d / 2 ^ j : Nat) : Int) 1 = bits .and .u16 ((d / 2 ^ j : Nat) : Int) ((1 : Nat) : Int) from rfl, bits_and_u16_nat _ _ hq (by omega), Nat.and_one_is_mod, Nat.testBit_eq_decide_div_mod_eq, Bool.eq_iff_iff]
  simp
  omega

theorem andnot_zero (E d : Nat) (hE : E < 65536) (hd : d < 65536) : (bits .andNot .u16 (E : Int) (d : Int) != 0) = true ↔ ¬ ∀ j, E.testBit j = true → d.testBit j = true := by
  have h1 : (BitVec.ofInt 16 (E : Int)).toNat = E := by
    rw [BitVec.ofInt_natCast, BitVec.toNat_ofNat]; exact Nat.mod_eq_of_lt (by omega)
  have h2 : (BitVec.ofInt 16 (d : Int)).toNat = d := by
    rw [BitVec.ofInt_natCast, BitVec.toNat_ofNat]; exact Nat.mod_eq_of_lt (by omega)
  have hb : bits .andNot .u16 (E : Int) (d : Int) = ((E &&& (2 ^ 16 - (d + 1)) : Nat) : Int) := by
    have hx : E &&& (2 ^ 16 - (d + 1)) < 2 ^ 16 := Nat.lt_of_le_of_lt Nat.and_le_left (by omega)
    show IntKind.u16.wrap ((BitVec.ofInt 16 (E : Int) &&& ~~~ BitVec.ofInt 16 (d : Int)).toNat : Int) = _
    rw [BitVec.toNat_and, BitVec.toNat_not, h1, h2, show 2 ^ 16 - 1 - d = 2 ^ 16 - (d + 1) by omega]
    exact wrap_u16_nat _ (by omega)
  rw [hb]
  have hbit : ∀ j, (E &&& (2 ^ 16 - (d + 1))).testBit j = (E.testBit j && (decide (j < 16) && !d.testBit j)) := fun j => by
    rw [Nat.testBit_and, Nat.testBit_two_pow_sub_succ (by omega)]
  constructor
  · intro h hall
    have : E &&& (2 ^ 16 - (d + 1)) = 0 := by
      apply Nat.eq_of_testBit_eq
      intro j
      rw [hbit, Nat.zero_testBit]
      cases e : E.testBit j with
      | false => rfl
      | true => rw [hall j e]; simp
    rw [this] at h
    simp at h
  · intro h
    have hne : E &&& (2 ^ 16 - (d + 1)) ≠ 0 := fun e => h (fun j hj => by
      have h3 := hbit j
      rw [e, Nat.zero_testBit, hj] at h3
      have hj16 : j < 16 := by
        rcases Nat.lt_or_ge j 16 with g | g
        · exact g
        · have := Nat.testBit_lt_two_pow (show E < 2 ^ j from Nat.lt_of_lt_of_le (by omega) (Nat.pow_le_pow_right (by omega) g))
          rw [hj] at this; cases this
      simp [hj16] at h3
      exact h3)
    generalize E &&& (2 ^ 16 - (d + 1)) = x at hne
    rw [bne_iff_ne]
    omega
end Go.Proofs.YtfhkhknnoepfeaaGreat
