/- A steal applied to a state, walked. (Written by wip/gen_histapply.py.) -/
import Derived.Test.YtfhkhknnoepfeaaHistLin5
namespace Go.Proofs.Ytfhkhknnoepfeaa
open Go.RowKit
set_option linter.unusedVariables false
set_option maxRecDepth 100000 in
set_option maxHeartbeats 8000000 in
theorem apply_steal (w : World) (ov : Value) (l : List HOp) (hv : OL w ov l) (d : Nat) (p : Nat → Int) (sz i : Nat) (cap : Int) (hi : i < l.length) (hn : l.length ≤ 12) (hd : d < 65536) (hsz : sz ≤ 12) (hroom : sz ≤ 11 ∨ ¬ (l.getD i HOp.zero).kind = 0) (hp : ∀ j, j < sz → ∃ q : Nat, p j = q ∧ q < l.length) (k0 : ¬ (l.getD i HOp.zero).kind = 0) (c2 : ¬ (l.getD i HOp.zero).code = 2) (c4 : ¬ (l.getD i HOp.zero).code = 4) (z0 : ¬ sz = 0) (k2 : (l.getD i HOp.zero).kind = 2) :
    Calls Try.prog 27 #[stA d p sz, ov, .int .i64 i, .int .i64 cap] w (ApRes w l ((d ||| 1 <<< i : Nat) : Int) p sz i cap) := by
  obtain ⟨ao, c1, rfl, hc, g1⟩ := hv
  obtain ⟨n, hnn⟩ : ∃ n, n = l.length := ⟨_, rfl⟩
  rw [← hnn] at hn hc g1 hi hp ⊢
  obtain ⟨b, off, rfl, hcs⟩ := g1 (by omega)
  have e1 := hcs i hi
  obtain ⟨o, ho⟩ : ∃ o, o = l.getD i HOp.zero := ⟨_, rfl⟩
  have HO := Lib.hid ho
  rw [← ho] at e1 hroom k0 c2 c4 k2
  unfold OpAt at e1
  obtain ⟨a0, a1, a2, a3, a4, a5⟩ := e1
  have hS2 : 1 <<< i < 65536 := by
    rw [Nat.shiftLeft_eq, Nat.one_mul]
    have : 2 ^ i ≤ 2 ^ 12 := Nat.pow_le_pow_right (by omega) (by omega)
    omega
  have hsh : bits BinOp.or IntKind.u16 (d : Int) (IntKind.u16.wrap ((2 : Int) ^ i)) = ((d ||| 1 <<< i : Nat) : Int) := by
    have e2 : ((2 : Int) ^ i) = ((1 <<< i : Nat) : Int) := by rw [Nat.shiftLeft_eq, Nat.one_mul]; simp
    rw [e2, wrap_u16_nat _ hS2, bits_or_u16_nat _ _ hd hS2]
  obtain ⟨d', hd'⟩ : ∃ d' : Int, d' = ((d ||| 1 <<< i : Nat) : Int) := ⟨_, rfl⟩
  rw [← hd'] at hsh ⊢
  have CS := Lib.hid hcs
  have HP := Lib.hid hp
  have HRM := Lib.hid hroom
  have hbl := lt_of_cell a0
  simp at hbl
  have K2 := Lib.hid k2
  clear hcs ho g1 hp hd' hroom k2
  go_enter Try.func27, Try.ntmps27
  simp only [stA, stC]
  go_upto_region 2 with fail
  go_cut [] (fun wx => ApB w wx w.heap.size (w.heap.size + 1) (w.heap.size + 1 + 1) d' p sz o)
  case first =>
    go_wp2_with fail
    go_meet
    have n1 := blk_alloc_new w (stO d' p sz)
    have n2 := blk_alloc_new (w.alloc (stO d' p sz)) (stO 0 (fun _ => 0) 0)
    have n3 := blk_alloc_new ((w.alloc (stO d' p sz)).alloc (stO 0 (fun _ => 0) 0)) (.cells #[.int .i64 o.kind, .int .i64 o.mach, .int .i64 o.frm, .int .i64 o.to, .int .i64 o.code, .int .i64 o.value] 28)
    rw [show (w.alloc (stO d' p sz)).heap.size = w.heap.size + 1 by simp] at n2
    rw [show ((w.alloc (stO d' p sz)).alloc (stO 0 (fun _ => 0) 0)).heap.size = w.heap.size + 1 + 1 by simp] at n3
    refine ⟨?_, ⟨0, fun _ => 0, 0, ?_⟩, n3, by omega, (((Only.refl _ _).alloc _).alloc _).alloc _, by omega⟩
    · exact (blk_alloc_old (by simp; omega) _).trans ((blk_alloc_old (by simp) _).trans n1)
    · exact (blk_alloc_old (by simp) _).trans n2
  case rest =>
    obtain ⟨hS, ⟨d0, p0, z0, hR⟩, hO, hne, hP, hlo⟩ := hcut
    generalize w.heap.size + 1 + 1 = b10 at *
    generalize w.heap.size + 1 = b8 at *
    generalize hb4 : w.heap.size = b4 at *
    obtain ⟨ne1, ne2, ne3⟩ := hne
    have SB := Lib.hid hS
    have RB := Lib.hid hR
    have OB := Lib.hid hO
    have PP := Lib.hid hP
    have s0 := cell_blk (show wc.heap[b4]? = some (.cells _ _ _) from hS) 0
    have s1 := cell_blk (show wc.heap[b4]? = some (.cells _ _ _) from hS) 1
    have s2 := cell_blk (show wc.heap[b4]? = some (.cells _ _ _) from hS) 2
    have s3 := cell_blk (show wc.heap[b4]? = some (.cells _ _ _) from hS) 3
    have s4 := cell_blk (show wc.heap[b4]? = some (.cells _ _ _) from hS) 4
    have s5 := cell_blk (show wc.heap[b4]? = some (.cells _ _ _) from hS) 5
    have s6 := cell_blk (show wc.heap[b4]? = some (.cells _ _ _) from hS) 6
    have s7 := cell_blk (show wc.heap[b4]? = some (.cells _ _ _) from hS) 7
    have s8 := cell_blk (show wc.heap[b4]? = some (.cells _ _ _) from hS) 8
    have s9 := cell_blk (show wc.heap[b4]? = some (.cells _ _ _) from hS) 9
    have s10 := cell_blk (show wc.heap[b4]? = some (.cells _ _ _) from hS) 10
    have s11 := cell_blk (show wc.heap[b4]? = some (.cells _ _ _) from hS) 11
    have s12 := cell_blk (show wc.heap[b4]? = some (.cells _ _ _) from hS) 12
    have s13 := cell_blk (show wc.heap[b4]? = some (.cells _ _ _) from hS) 13
    have fs := fun i => free_blk (show wc.heap[b4]? = some (.cells _ _ _) from hS) i
    simp [stC] at s0 s1 s2 s3 s4 s5 s6 s7 s8 s9 s10 s11 s12 s13
    have r0 := cell_blk (show wc.heap[b8]? = some (.cells _ _ _) from hR) 0
    have r1 := cell_blk (show wc.heap[b8]? = some (.cells _ _ _) from hR) 1
    have r2 := cell_blk (show wc.heap[b8]? = some (.cells _ _ _) from hR) 2
    have r3 := cell_blk (show wc.heap[b8]? = some (.cells _ _ _) from hR) 3
    have r4 := cell_blk (show wc.heap[b8]? = some (.cells _ _ _) from hR) 4
    have r5 := cell_blk (show wc.heap[b8]? = some (.cells _ _ _) from hR) 5
    have r6 := cell_blk (show wc.heap[b8]? = some (.cells _ _ _) from hR) 6
    have r7 := cell_blk (show wc.heap[b8]? = some (.cells _ _ _) from hR) 7
    have r8 := cell_blk (show wc.heap[b8]? = some (.cells _ _ _) from hR) 8
    have r9 := cell_blk (show wc.heap[b8]? = some (.cells _ _ _) from hR) 9
    have r10 := cell_blk (show wc.heap[b8]? = some (.cells _ _ _) from hR) 10
    have r11 := cell_blk (show wc.heap[b8]? = some (.cells _ _ _) from hR) 11
    have r12 := cell_blk (show wc.heap[b8]? = some (.cells _ _ _) from hR) 12
    have r13 := cell_blk (show wc.heap[b8]? = some (.cells _ _ _) from hR) 13
    have fr := fun i => free_blk (show wc.heap[b8]? = some (.cells _ _ _) from hR) i
    simp [stC] at r0 r1 r2 r3 r4 r5 r6 r7 r8 r9 r10 r11 r12 r13
    have o0 := cell_blk hO 0
    have o1 := cell_blk hO 1
    have o2 := cell_blk hO 2
    have o3 := cell_blk hO 3
    have o4 := cell_blk hO 4
    have o5 := cell_blk hO 5
    simp at o0 o1 o2 o3 o4 o5
    have hl4 := lt_of_blk hS
    have hl8 := lt_of_blk hR
    have k5 := hP.keepCell a5 (by simp)
    have hl48 := hlo.2
    clear hS hR hO hP hlo
    have kb0 : (o.kind == 0) = false := by simpa using k0
    have cb2 : (o.code == 2) = false := by simpa using c2
    have cb4 : (o.code == 4) = false := by simpa using c4
    obtain ⟨m, rfl⟩ : ∃ m, sz = m + 1 := ⟨sz - 1, by omega⟩
    obtain ⟨q, hq, hqn⟩ := HP.out 0 (by omega)
    have cM : wc.cell? ⟨b4, 1 + m, none⟩ = some (.int .i64 (p m)) := by rw [cell_blk (show wc.heap[b4]? = some (.cells _ _ _) from SB.out)]; exact stC_get _ _ _ _ (by omega)
    obtain ⟨vq, hvq⟩ : ∃ vq, vq = (l.getD q HOp.zero).value := ⟨_, rfl⟩
    have kq := PP.out.keepCell (show w.cell? ⟨b, off + q * 6 + 5, none⟩ = some (.int .i64 vq) from by rw [hvq]; exact (CS.out q hqn).2.2.2.2.2) (by simp)
    have hqv : (p 0).toNat = q := by rw [hq]; omega
    have VQ := Lib.hid (show (l.getD (p 0).toNat HOp.zero).value = vq from by rw [hqv, hvq])
    have HQ := Lib.hid hq
    clear hvq hqv
    have kb2 : (o.kind == 2) = true := by simpa using K2.out
    have c1' : wc.cell? ⟨b4, 1, none⟩ = some (.int .i64 q) := by rw [s1, HQ.out]
    obtain ⟨wd, hwd⟩ : ∃ wd, wd = (wc.setCell ⟨b4, 13, none⟩ (.int .i64 m)).drew := ⟨_, rfl⟩
    have hSd : wd.heap[b4]? = some (stO d' p m) := by
      rw [hwd]
      have e := blk_setCell (show wc.heap[b4]? = some (.cells (stC d' p ((m + 1 : Nat) : Int)) 55 (0, 0)) from SB.out) 13 (.int .i64 m)
      rw [stC_size] at e
      exact e
    obtain ⟨w5, hcopy, hS5, hO5⟩ := ap_copy 3 hSd
    have Od : Only [b4] wc wd := by rw [hwd]; exact ((Only.refl _ _).setCell (by simp) _).drew
    have S5 := Lib.hid hS5
    have O5 := Lib.hid (Od.trans hO5 (by simp))
    rw [hwd] at hcopy
    have hp6m : Hid (∀ a b c : Int, (stC a (fun j => if j < 11 then p (j + 1) else p j) b)[1 + m]? = some (.int .i64 (if m < 11 then p (m + 1) else p m))) := Lib.hid (fun a b c => stC_get _ _ _ _ (by omega))
    have cN : w5.cell? ⟨b4, 1 + m, none⟩ = some (.int .i64 (if m < 11 then p (m + 1) else p m)) := by rw [cell_blk (show w5.heap[b4]? = some (.cells _ _ _) from hS5)]; exact stC_get _ _ _ _ (by omega)
    obtain ⟨cv, hcv⟩ : ∃ cv, cv = (if m < 11 then p (m + 1) else p m) := ⟨_, rfl⟩
    rw [← hcv] at cN
    have c13 : w5.cell? ⟨b4, 13, none⟩ = some (.int .i64 m) := by rw [cell_blk (show w5.heap[b4]? = some (.cells _ _ _) from hS5)]; rfl
    have f5 := fun i => free_blk (show w5.heap[b4]? = some (.cells _ _ _) from hS5) i
    obtain ⟨p6, hp6⟩ : ∃ p6 : Nat → Int, p6 = fun j => if j = m then (0 : Int) else if j < 11 then p (j + 1) else p j := ⟨_, rfl⟩
    have HP6 := Lib.hid hp6
    clear hcv hp6m hS5 hO5 Od hwd hSd
    go_upto_region 21 with fail
    go_region
    go_upto_region 23 with fail
    obtain ⟨w6, hw6⟩ : ∃ w6, w6 = w5.setCell ⟨b4, 1 + m, none⟩ (.int .i64 0) := ⟨_, rfl⟩
    rw [← hw6]
    have O6 : Hid (Only [b4] wc w6) := Lib.hid (by rw [hw6]; exact O5.out.setCell (by simp) _)
    have S6 : Hid (w6.heap[b4]? = some (stO d' p6 m)) := Lib.hid (by
      rw [hw6]
      have e := blk_setCell (show w5.heap[b4]? = some (.cells (stC d' (fun j => if j < 11 then p (j + 1) else p j) m) 55 (0, 0)) from S5.out) (1 + m) (.int .i64 0)
      rw [stC_set _ _ _ _ _ (by omega), ← HP6.out] at e
      exact e)
    have R6 := Lib.hid (O6.out.keep RB.out (by simp; omega))
    have C6 := Lib.hid (O6.out.keep OB.out (by simp; omega))
    have v6 := O6.out.keepCell kq (by simp; omega)
    have hl64 := lt_of_blk S6.out
    have hl68 := lt_of_blk R6.out
    clear s0 s1 s2 s3 s4 s5 s6 s7 s8 s9 s10 s11 s12 s13 r0 r1 r2 r3 r4 r5 r6 r7 r8 r9 r10 r11 r12 r13 fs fr o0 o1 o2 o3 o4 o5
    clear hw6 cM hp6 cN c13 f5 hcopy c1'
    have s0 := cell_blk (show w6.heap[b4]? = some (.cells _ _ _) from S6.out) 0
    have s1 := cell_blk (show w6.heap[b4]? = some (.cells _ _ _) from S6.out) 1
    have s2 := cell_blk (show w6.heap[b4]? = some (.cells _ _ _) from S6.out) 2
    have s3 := cell_blk (show w6.heap[b4]? = some (.cells _ _ _) from S6.out) 3
    have s4 := cell_blk (show w6.heap[b4]? = some (.cells _ _ _) from S6.out) 4
    have s5 := cell_blk (show w6.heap[b4]? = some (.cells _ _ _) from S6.out) 5
    have s6 := cell_blk (show w6.heap[b4]? = some (.cells _ _ _) from S6.out) 6
    have s7 := cell_blk (show w6.heap[b4]? = some (.cells _ _ _) from S6.out) 7
    have s8 := cell_blk (show w6.heap[b4]? = some (.cells _ _ _) from S6.out) 8
    have s9 := cell_blk (show w6.heap[b4]? = some (.cells _ _ _) from S6.out) 9
    have s10 := cell_blk (show w6.heap[b4]? = some (.cells _ _ _) from S6.out) 10
    have s11 := cell_blk (show w6.heap[b4]? = some (.cells _ _ _) from S6.out) 11
    have s12 := cell_blk (show w6.heap[b4]? = some (.cells _ _ _) from S6.out) 12
    have s13 := cell_blk (show w6.heap[b4]? = some (.cells _ _ _) from S6.out) 13
    have fs := fun i => free_blk (show w6.heap[b4]? = some (.cells _ _ _) from S6.out) i
    simp [stC] at s0 s1 s2 s3 s4 s5 s6 s7 s8 s9 s10 s11 s12 s13
    have r0 := cell_blk (show w6.heap[b8]? = some (.cells _ _ _) from R6.out) 0
    have r1 := cell_blk (show w6.heap[b8]? = some (.cells _ _ _) from R6.out) 1
    have r2 := cell_blk (show w6.heap[b8]? = some (.cells _ _ _) from R6.out) 2
    have r3 := cell_blk (show w6.heap[b8]? = some (.cells _ _ _) from R6.out) 3
    have r4 := cell_blk (show w6.heap[b8]? = some (.cells _ _ _) from R6.out) 4
    have r5 := cell_blk (show w6.heap[b8]? = some (.cells _ _ _) from R6.out) 5
    have r6 := cell_blk (show w6.heap[b8]? = some (.cells _ _ _) from R6.out) 6
    have r7 := cell_blk (show w6.heap[b8]? = some (.cells _ _ _) from R6.out) 7
    have r8 := cell_blk (show w6.heap[b8]? = some (.cells _ _ _) from R6.out) 8
    have r9 := cell_blk (show w6.heap[b8]? = some (.cells _ _ _) from R6.out) 9
    have r10 := cell_blk (show w6.heap[b8]? = some (.cells _ _ _) from R6.out) 10
    have r11 := cell_blk (show w6.heap[b8]? = some (.cells _ _ _) from R6.out) 11
    have r12 := cell_blk (show w6.heap[b8]? = some (.cells _ _ _) from R6.out) 12
    have r13 := cell_blk (show w6.heap[b8]? = some (.cells _ _ _) from R6.out) 13
    have fr := fun i => free_blk (show w6.heap[b8]? = some (.cells _ _ _) from R6.out) i
    simp [stC] at r0 r1 r2 r3 r4 r5 r6 r7 r8 r9 r10 r11 r12 r13
    have o0 := cell_blk (C6.out) 0
    have o1 := cell_blk (C6.out) 1
    have o2 := cell_blk (C6.out) 2
    have o3 := cell_blk (C6.out) 3
    have o4 := cell_blk (C6.out) 4
    have o5 := cell_blk (C6.out) 5
    simp at o0 o1 o2 o3 o4 o5
    clear S6
    go_region
    all_goals
      go_wp2_with fail
      obtain ⟨W, hW⟩ : ∃ W, W = ((((((((((((((w6).setCell ⟨b8, 0, none⟩ (.int .u16 d')).setCell ⟨b8, 1, none⟩ (.int .i64 (p6 0))).setCell ⟨b8, 2, none⟩ (.int .i64 (p6 1))).setCell ⟨b8, 3, none⟩ (.int .i64 (p6 2))).setCell ⟨b8, 4, none⟩ (.int .i64 (p6 3))).setCell ⟨b8, 5, none⟩ (.int .i64 (p6 4))).setCell ⟨b8, 6, none⟩ (.int .i64 (p6 5))).setCell ⟨b8, 7, none⟩ (.int .i64 (p6 6))).setCell ⟨b8, 8, none⟩ (.int .i64 (p6 7))).setCell ⟨b8, 9, none⟩ (.int .i64 (p6 8))).setCell ⟨b8, 10, none⟩ (.int .i64 (p6 9))).setCell ⟨b8, 11, none⟩ (.int .i64 (p6 10))).setCell ⟨b8, 12, none⟩ (.int .i64 (p6 11))).setCell ⟨b8, 13, none⟩ (.int .i64 m) := ⟨_, rfl⟩
      rw [← hW]
      obtain ⟨hB, hOW⟩ := ap_blk R6.out hW
      replace hOW := hOW.drew
      have e0 := cell_blk (show W.drew.heap[b8]? = some (.cells _ _ _) from hB) 0
      have e1 := cell_blk (show W.drew.heap[b8]? = some (.cells _ _ _) from hB) 1
      have e2 := cell_blk (show W.drew.heap[b8]? = some (.cells _ _ _) from hB) 2
      have e3 := cell_blk (show W.drew.heap[b8]? = some (.cells _ _ _) from hB) 3
      have e4 := cell_blk (show W.drew.heap[b8]? = some (.cells _ _ _) from hB) 4
      have e5 := cell_blk (show W.drew.heap[b8]? = some (.cells _ _ _) from hB) 5
      have e6 := cell_blk (show W.drew.heap[b8]? = some (.cells _ _ _) from hB) 6
      have e7 := cell_blk (show W.drew.heap[b8]? = some (.cells _ _ _) from hB) 7
      have e8 := cell_blk (show W.drew.heap[b8]? = some (.cells _ _ _) from hB) 8
      have e9 := cell_blk (show W.drew.heap[b8]? = some (.cells _ _ _) from hB) 9
      have e10 := cell_blk (show W.drew.heap[b8]? = some (.cells _ _ _) from hB) 10
      have e11 := cell_blk (show W.drew.heap[b8]? = some (.cells _ _ _) from hB) 11
      have e12 := cell_blk (show W.drew.heap[b8]? = some (.cells _ _ _) from hB) 12
      have e13 := cell_blk (show W.drew.heap[b8]? = some (.cells _ _ _) from hB) 13
      simp [stC] at e0 e1 e2 e3 e4 e5 e6 e7 e8 e9 e10 e11 e12 e13
      refine bodyPost_ret (v := .tuple #[stA d' p6 m, .bool (vq == o.value)]) (by simp [results, Try.results27, go_sem, e0, e1, e2, e3, e4, e5, e6, e7, e8, e9, e10, e11, e12, e13, stA, stC]) rfl ⟨_, _, rfl, (PP.out.trans O6.out (by simp; omega)).trans hOW (by simp; omega), ⟨_, _, _, rfl⟩, ap_post HO.out ?_⟩
      rw [if_neg (fun h => k0 h.1), if_neg k0, if_neg c2, if_neg c4, if_neg (by omega), if_pos K2.out]; exact ⟨by rw [VQ.out]; rfl, by rw [show m + 1 - 1 = m by omega, ← HP6.out]; simp⟩

end Go.Proofs.Ytfhkhknnoepfeaa
