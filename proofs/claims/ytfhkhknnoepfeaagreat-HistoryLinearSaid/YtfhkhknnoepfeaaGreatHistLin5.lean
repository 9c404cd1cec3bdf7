/- An operation applied to a state, walked. (Written by wip/gen_histapply.py.) -/
import Derived.Test.YtfhkhknnoepfeaaGreatHistLin4
import Derived.Laws.IdiomCopy
import Derived.Deep.DeepCutAuto
namespace Go.Proofs.YtfhkhknnoepfeaaGreat
open Go.RowKit
set_option linter.unusedVariables false

/-- The cells of a state: the set of operations, the twelve places, the size. -/
def stC (d : Int) (p : Nat → Int) (sz : Int) : Array Value := #[.int .u16 d, .int .i64 (p 0), .int .i64 (p 1), .int .i64 (p 2), .int .i64 (p 3), .int .i64 (p 4), .int .i64 (p 5), .int .i64 (p 6), .int .i64 (p 7), .int .i64 (p 8), .int .i64 (p 9), .int .i64 (p 10), .int .i64 (p 11), .int .i64 sz]
def stO (d : Int) (p : Nat → Int) (sz : Int) : Obj := .cells (stC d p sz) 83 (0, 0)
def stA (d : Int) (p : Nat → Int) (sz : Int) : Value := .agg (stC d p sz)
theorem stC_get (d : Int) (p : Nat → Int) (sz : Int) (m : Nat) (h : m < 12) : (stC d p sz)[1 + m]? = some (.int .i64 (p m)) := by
  match m, h with
  | 0, _ => rfl
  | 1, _ => rfl
  | 2, _ => rfl
  | 3, _ => rfl
  | 4, _ => rfl
  | 5, _ => rfl
  | 6, _ => rfl
  | 7, _ => rfl
  | 8, _ => rfl
  | 9, _ => rfl
  | 10, _ => rfl
  | 11, _ => rfl
theorem stC_set (d : Int) (p : Nat → Int) (sz x : Int) (m : Nat) (h : m < 12) : (stC d p sz).setIfInBounds (1 + m) (.int .i64 x) = stC d (fun j => if j = m then x else p j) sz := by
  match m, h with
  | 0, _ => rfl
  | 1, _ => rfl
  | 2, _ => rfl
  | 3, _ => rfl
  | 4, _ => rfl
  | 5, _ => rfl
  | 6, _ => rfl
  | 7, _ => rfl
  | 8, _ => rfl
  | 9, _ => rfl
  | 10, _ => rfl
  | 11, _ => rfl

theorem stC_done (d x : Int) (p : Nat → Int) (sz : Int) : (stC d p sz).setIfInBounds 0 (.int .u16 x) = stC x p sz := rfl
theorem stC_size (d : Int) (p : Nat → Int) (sz x : Int) : (stC d p sz).setIfInBounds 13 (.int .i64 x) = stC d p x := rfl

/-- The places of a list. -/
def plc (L : List Nat) : Nat → Int := fun j => ((L.getD j 0 : Nat) : Int)
def stV (d : Nat) (L : List Nat) : Value := stA d (plc L) L.length

/-- What an operation makes of a state. -/
def ApPost (l : List HOp) (d : Int) (p : Nat → Int) (sz i : Nat) (cap : Int) (v : Value) (ok : Bool) : Prop :=
  if (l.getD i HOp.zero).kind = 0 ∧ (l.getD i HOp.zero).code = 0 then (if (sz : Int) < cap then ok = true ∧ v = stA d (fun j => if j = sz then i else p j) ((sz : Int) + 1) else ok = false)
  else if (l.getD i HOp.zero).kind = 0 then ok = decide (cap ≤ sz) ∧ v = stA d p sz
  else if (l.getD i HOp.zero).code = 2 then ok = decide (sz = 0) ∧ v = stA d p sz
  else if (l.getD i HOp.zero).code = 4 then ok = true ∧ v = stA d p sz
  else if sz = 0 then ok = false
  else if (l.getD i HOp.zero).kind = 2 then ok = decide ((l.getD (p 0).toNat HOp.zero).value = (l.getD i HOp.zero).value) ∧ v = stA d (fun j => if j = sz - 1 then 0 else if j < 11 then p (j + 1) else p j) ((sz : Int) - 1)
  else ok = decide ((l.getD (p (sz - 1)).toNat HOp.zero).value = (l.getD i HOp.zero).value) ∧ v = stA d (fun j => if j = sz - 1 then 0 else p j) ((sz : Int) - 1)

/-- What apply comes to. -/
def ApRes (w : World) (l : List HOp) (d : Int) (p : Nat → Int) (sz i : Nat) (cap : Int) (e : Ending) (w' : World) : Prop := ∃ v ok, e = .returned (.tuple #[v, .bool ok]) ∧ Only [] w w' ∧ (∃ a b c, v = stA a b c) ∧ ApPost l d p sz i cap v ok

/-- The three blocks of the walk: the state, the result, the operation. -/
structure ApB (w wx : World) (b4 b8 b10 : Nat) (d : Int) (p : Nat → Int) (sz : Int) (o : HOp) : Prop where
  s : wx.heap[b4]? = some (stO d p sz)
  r : ∃ d0 p0 s0, wx.heap[b8]? = some (stO d0 p0 s0)
  o : wx.heap[b10]? = some (.cells #[.int .i64 o.kind, .int .i64 o.mach, .int .i64 o.frm, .int .i64 o.to, .int .i64 o.code, .int .i64 o.value] 36 (0, 0))
  n : b4 ≠ b8 ∧ b4 ≠ b10 ∧ b8 ≠ b10
  P : Only [] w wx
  lo : w.heap.size ≤ b4 ∧ w.heap.size ≤ b8

theorem ap_blk {w0 W : World} {b8 : Nat} {d0 z0 d sz : Int} {p0 p : Nat → Int} (hR : w0.heap[b8]? = some (stO d0 p0 z0)) (hW : W = ((((((((((((((w0).setCell ⟨b8, 0, none⟩ (.int .u16 d)).setCell ⟨b8, 1, none⟩ (.int .i64 (p 0))).setCell ⟨b8, 2, none⟩ (.int .i64 (p 1))).setCell ⟨b8, 3, none⟩ (.int .i64 (p 2))).setCell ⟨b8, 4, none⟩ (.int .i64 (p 3))).setCell ⟨b8, 5, none⟩ (.int .i64 (p 4))).setCell ⟨b8, 6, none⟩ (.int .i64 (p 5))).setCell ⟨b8, 7, none⟩ (.int .i64 (p 6))).setCell ⟨b8, 8, none⟩ (.int .i64 (p 7))).setCell ⟨b8, 9, none⟩ (.int .i64 (p 8))).setCell ⟨b8, 10, none⟩ (.int .i64 (p 9))).setCell ⟨b8, 11, none⟩ (.int .i64 (p 10))).setCell ⟨b8, 12, none⟩ (.int .i64 (p 11))).setCell ⟨b8, 13, none⟩ (.int .i64 sz)) : W.heap[b8]? = some (stO d p sz) ∧ Only [b8] w0 W := by
  constructor
  · rw [hW]
    have e := blk_setCell (blk_setCell (blk_setCell (blk_setCell (blk_setCell (blk_setCell (blk_setCell (blk_setCell (blk_setCell (blk_setCell (blk_setCell (blk_setCell (blk_setCell (blk_setCell ((show w0.heap[b8]? = some (.cells (stC d0 p0 z0) 83 (0, 0)) from hR)) 0 (.int .u16 d)) 1 (.int .i64 (p 0))) 2 (.int .i64 (p 1))) 3 (.int .i64 (p 2))) 4 (.int .i64 (p 3))) 5 (.int .i64 (p 4))) 6 (.int .i64 (p 5))) 7 (.int .i64 (p 6))) 8 (.int .i64 (p 7))) 9 (.int .i64 (p 8))) 10 (.int .i64 (p 9))) 11 (.int .i64 (p 10))) 12 (.int .i64 (p 11))) 13 (.int .i64 sz)
    simp only [stC, List.setIfInBounds_toArray, List.set_cons_zero, List.set_cons_succ] at e
    exact e
  · rw [hW]
    exact ((((((((((((((Only.refl _ _).setCell (by simp) _).setCell (by simp) _).setCell (by simp) _).setCell (by simp) _).setCell (by simp) _).setCell (by simp) _).setCell (by simp) _).setCell (by simp) _).setCell (by simp) _).setCell (by simp) _).setCell (by simp) _).setCell (by simp) _).setCell (by simp) _).setCell (by simp) _

theorem infoI1 : (Tryz.prog.info? 3).map (·.size) = some 1 := by kernel_rfl
theorem only_setRow {w : World} {g : Nat} (cs : Array Value) : Only [g] w (w.setRow g cs) := ⟨rfl, rfl, rfl, by simp, fun k hk hn => by
  have : k ≠ g := by simpa using hn
  simp [World.setRow, Array.getElem?_modify, this.symm]⟩
/-- The list moved by one place. -/
theorem ap_copy {wc : World} {b4 : Nat} {d m : Int} {p : Nat → Int} (ty : TypeId) (h : wc.heap[b4]? = some (stO d p m)) : ∃ w5, (Builtin.copy_ #[23, 23] ty #[.slice (some ⟨b4, 1, none⟩) 12 12, .slice (some ⟨b4, 2, none⟩) 11 11]).run Tryz.prog wc = .ok (.int .i64 11) w5 ∧ w5.heap[b4]? = some (stO d (fun j => if j < 11 then p (j + 1) else p j) m) ∧ Only [b4] wc w5 := by
  have hr := run_copy_row (P := Tryz.prog) wc 23 23 ty 3 b4 1 12 12 ⟨b4, 2, none⟩ 11 11 (stC d p m) 83 [.int .i64 (p 1), .int .i64 (p 2), .int .i64 (p 3), .int .i64 (p 4), .int .i64 (p 5), .int .i64 (p 6), .int .i64 (p 7), .int .i64 (p 8), .int .i64 (p 9), .int .i64 (p 10), .int .i64 (p 11)] Tryz.underlying23 infoI1 h rfl
    (fun j v hv => by
      have hj : j < 11 := by have := (List.getElem?_eq_some_iff.1 hv).1; simpa using this
      rw [Go.WideShapes.add_plain, cell_blk (show wc.heap[b4]? = some (.cells (stC d p m) _ _) from h), ← hv]
      match j, hj with
      | 0, _ => rfl
      | 1, _ => rfl
      | 2, _ => rfl
      | 3, _ => rfl
      | 4, _ => rfl
      | 5, _ => rfl
      | 6, _ => rfl
      | 7, _ => rfl
      | 8, _ => rfl
      | 9, _ => rfl
      | 10, _ => rfl) (by simp [stC]) (by simp [Value.oneCell'])
  refine ⟨_, hr, ?_, only_setRow _⟩
  rw [setRow_heap wc b4 _ _ _ _ h]
  rfl

theorem ap_post {l : List HOp} {d : Int} {p : Nat → Int} {sz i : Nat} {cap : Int} {v : Value} {ok : Bool} {o : HOp} (ho : o = l.getD i HOp.zero) (h : if o.kind = 0 ∧ o.code = 0 then (if (sz : Int) < cap then ok = true ∧ v = stA d (fun j => if j = sz then i else p j) ((sz : Int) + 1) else ok = false)
  else if o.kind = 0 then ok = decide (cap ≤ sz) ∧ v = stA d p sz
  else if o.code = 2 then ok = decide (sz = 0) ∧ v = stA d p sz
  else if o.code = 4 then ok = true ∧ v = stA d p sz
  else if sz = 0 then ok = false
  else if o.kind = 2 then ok = decide ((l.getD (p 0).toNat HOp.zero).value = o.value) ∧ v = stA d (fun j => if j = sz - 1 then 0 else if j < 11 then p (j + 1) else p j) ((sz : Int) - 1)
  else ok = decide ((l.getD (p (sz - 1)).toNat HOp.zero).value = o.value) ∧ v = stA d (fun j => if j = sz - 1 then 0 else p j) ((sz : Int) - 1)) : ApPost l d p sz i cap v ok := by
  unfold ApPost
  rw [← ho]
  exact h

set_option maxRecDepth 100000 in
set_option maxHeartbeats 8000000 in
theorem apply_rest (w : World) (ov : Value) (l : List HOp) (hv : OL w ov l) (d : Nat) (p : Nat → Int) (sz i : Nat) (cap : Int) (hi : i < l.length) (hn : l.length ≤ 12) (hd : d < 65536) (hsz : sz ≤ 12) (hroom : sz ≤ 11 ∨ ¬ (l.getD i HOp.zero).kind = 0) (hp : ∀ j, j < sz → ∃ q : Nat, p j = q ∧ q < l.length) (hsp : (l.getD i HOp.zero).kind = 0 ∨ (l.getD i HOp.zero).code = 2 ∨ (l.getD i HOp.zero).code = 4 ∨ sz = 0) :
    Calls Tryz.prog 36 #[stA d p sz, ov, .int .i64 i, .int .i64 cap] w (ApRes w l ((d ||| 1 <<< i : Nat) : Int) p sz i cap) := by
  obtain ⟨ao, c1, rfl, hc, g1⟩ := hv
  obtain ⟨n, hnn⟩ : ∃ n, n = l.length := ⟨_, rfl⟩
  rw [← hnn] at hn hc g1 hi hp ⊢
  obtain ⟨b, off, rfl, hcs⟩ := g1 (by omega)
  have e1 := hcs i hi
  obtain ⟨o, ho⟩ : ∃ o, o = l.getD i HOp.zero := ⟨_, rfl⟩
  have HO := Lib.hid ho
  rw [← ho] at e1 hroom hsp
  unfold OpAt at e1
  obtain ⟨a0, a1, a2, a3, a4, a5⟩ := e1
  have hS2 : 1 <<< i < 65536 := by
    rw [Nat.shiftLeft_eq, Nat.one_mul]
    have : 2 ^ i ≤ 2 ^ 12 := Nat.pow_le_pow_right (by omega) (by omega)
    omega
  have hsh : bits BinOp.or IntKind.u16 (d : Int) (IntKind.u16.wrap ((2 : Int) ^ i)) = ((d ||| 1 <<< i : Nat) : Int) := by
    have e2 : ((2 : Int) ^ i) = ((1 <<< i : Nat) : Int) := by rw [Nat.shiftLeft_eq, Nat.one_mul]; simp
    rw [e2, wrap_u16_nat _ hS2, bits_or_u16_nat _ _ hd hS2]
  obtain ⟨d', hd'⟩ : ∃ d' : Int, d' = ((d ||| 1 <<< i : Nat) : Int) := ⟨_, rfl⟩
  rw [← hd'] at hsh ⊢
  have CS := Lib.hid hcs
  have HP := Lib.hid hp
  have HRM := Lib.hid hroom
  have hbl := lt_of_cell a0
  simp at hbl
  clear hcs ho g1 hp hd' hroom
  go_enter Tryz.func36, Tryz.ntmps36
  simp only [stA, stC]
  go_upto_region 2 with fail
  go_cut [] (fun wx => ApB w wx w.heap.size (w.heap.size + 1) (w.heap.size + 1 + 1) d' p sz o)
  case first =>
    go_wp2_with fail
    go_meet
    have n1 := blk_alloc_new w (stO d' p sz)
    have n2 := blk_alloc_new (w.alloc (stO d' p sz)) (stO 0 (fun _ => 0) 0)
    have n3 := blk_alloc_new ((w.alloc (stO d' p sz)).alloc (stO 0 (fun _ => 0) 0)) (.cells #[.int .i64 o.kind, .int .i64 o.mach, .int .i64 o.frm, .int .i64 o.to, .int .i64 o.code, .int .i64 o.value] 36)
    rw [show (w.alloc (stO d' p sz)).heap.size = w.heap.size + 1 by simp] at n2
    rw [show ((w.alloc (stO d' p sz)).alloc (stO 0 (fun _ => 0) 0)).heap.size = w.heap.size + 1 + 1 by simp] at n3
    refine ⟨?_, ⟨0, fun _ => 0, 0, ?_⟩, n3, by omega, (((Only.refl _ _).alloc _).alloc _).alloc _, by omega⟩
    · exact (blk_alloc_old (by simp; omega) _).trans ((blk_alloc_old (by simp) _).trans n1)
    · exact (blk_alloc_old (by simp) _).trans n2
  case rest =>
    obtain ⟨hS, ⟨d0, p0, z0, hR⟩, hO, hne, hP, hlo⟩ := hcut
    generalize w.heap.size + 1 + 1 = b10 at *
    generalize w.heap.size + 1 = b8 at *
    generalize hb4 : w.heap.size = b4 at *
    obtain ⟨ne1, ne2, ne3⟩ := hne
    have SB := Lib.hid hS
    have RB := Lib.hid hR
    have OB := Lib.hid hO
    have PP := Lib.hid hP
    have s0 := cell_blk (show wc.heap[b4]? = some (.cells _ _ _) from hS) 0
    have s1 := cell_blk (show wc.heap[b4]? = some (.cells _ _ _) from hS) 1
    have s2 := cell_blk (show wc.heap[b4]? = some (.cells _ _ _) from hS) 2
    have s3 := cell_blk (show wc.heap[b4]? = some (.cells _ _ _) from hS) 3
    have s4 := cell_blk (show wc.heap[b4]? = some (.cells _ _ _) from hS) 4
    have s5 := cell_blk (show wc.heap[b4]? = some (.cells _ _ _) from hS) 5
    have s6 := cell_blk (show wc.heap[b4]? = some (.cells _ _ _) from hS) 6
    have s7 := cell_blk (show wc.heap[b4]? = some (.cells _ _ _) from hS) 7
    have s8 := cell_blk (show wc.heap[b4]? = some (.cells _ _ _) from hS) 8
    have s9 := cell_blk (show wc.heap[b4]? = some (.cells _ _ _) from hS) 9
    have s10 := cell_blk (show wc.heap[b4]? = some (.cells _ _ _) from hS) 10
    have s11 := cell_blk (show wc.heap[b4]? = some (.cells _ _ _) from hS) 11
    have s12 := cell_blk (show wc.heap[b4]? = some (.cells _ _ _) from hS) 12
    have s13 := cell_blk (show wc.heap[b4]? = some (.cells _ _ _) from hS) 13
    have fs := fun i => free_blk (show wc.heap[b4]? = some (.cells _ _ _) from hS) i
    simp [stC] at s0 s1 s2 s3 s4 s5 s6 s7 s8 s9 s10 s11 s12 s13
    have r0 := cell_blk (show wc.heap[b8]? = some (.cells _ _ _) from hR) 0
    have r1 := cell_blk (show wc.heap[b8]? = some (.cells _ _ _) from hR) 1
    have r2 := cell_blk (show wc.heap[b8]? = some (.cells _ _ _) from hR) 2
    have r3 := cell_blk (show wc.heap[b8]? = some (.cells _ _ _) from hR) 3
    have r4 := cell_blk (show wc.heap[b8]? = some (.cells _ _ _) from hR) 4
    have r5 := cell_blk (show wc.heap[b8]? = some (.cells _ _ _) from hR) 5
    have r6 := cell_blk (show wc.heap[b8]? = some (.cells _ _ _) from hR) 6
    have r7 := cell_blk (show wc.heap[b8]? = some (.cells _ _ _) from hR) 7
    have r8 := cell_blk (show wc.heap[b8]? = some (.cells _ _ _) from hR) 8
    have r9 := cell_blk (show wc.heap[b8]? = some (.cells _ _ _) from hR) 9
    have r10 := cell_blk (show wc.heap[b8]? = some (.cells _ _ _) from hR) 10
    have r11 := cell_blk (show wc.heap[b8]? = some (.cells _ _ _) from hR) 11
    have r12 := cell_blk (show wc.heap[b8]? = some (.cells _ _ _) from hR) 12
    have r13 := cell_blk (show wc.heap[b8]? = some (.cells _ _ _) from hR) 13
    have fr := fun i => free_blk (show wc.heap[b8]? = some (.cells _ _ _) from hR) i
    simp [stC] at r0 r1 r2 r3 r4 r5 r6 r7 r8 r9 r10 r11 r12 r13
    have o0 := cell_blk hO 0
    have o1 := cell_blk hO 1
    have o2 := cell_blk hO 2
    have o3 := cell_blk hO 3
    have o4 := cell_blk hO 4
    have o5 := cell_blk hO 5
    simp at o0 o1 o2 o3 o4 o5
    have hl4 := lt_of_blk hS
    have hl8 := lt_of_blk hR
    have k5 := hP.keepCell a5 (by simp)
    have hl48 := hlo.2
    clear hS hR hO hP hlo
    by_cases k0 : o.kind = 0
    · have kb0 : (o.kind == 0) = true := by simpa using k0
      by_cases c0 : o.code = 0
      · have cb0 : (o.code == 0) = true := by simpa using c0
        by_cases hcp : (sz : Int) < cap
        · have hs11 : sz ≤ 11 := by rcases HRM.out with h | h; exact h; exact absurd k0 h
          have cM : wc.cell? ⟨b4, 1 + sz, none⟩ = some (.int .i64 (p sz)) := by rw [cell_blk (show wc.heap[b4]? = some (.cells _ _ _) from SB.out)]; exact stC_get _ _ _ _ (by omega)
          go_upto_region 8 with fail
          obtain ⟨w6, hw6⟩ : ∃ w6, w6 = (wc.setCell ⟨b4, 1 + sz, none⟩ (.int .i64 i)).setCell ⟨b4, 13, none⟩ (.int .i64 ((sz : Int) + 1)) := ⟨_, rfl⟩
          rw [← hw6]
          have O6 : Hid (Only [b4] wc w6) := Lib.hid (by rw [hw6]; exact ((Only.refl _ _).setCell (by simp) _).setCell (by simp) _)
          obtain ⟨p6, hp6⟩ : ∃ p6 : Nat → Int, p6 = fun j => if j = sz then (i : Int) else p j := ⟨_, rfl⟩
          have S6 : Hid (w6.heap[b4]? = some (stO d' p6 ((sz : Int) + 1))) := Lib.hid (by
            rw [hw6]
            have e := blk_setCell (blk_setCell (show wc.heap[b4]? = some (.cells (stC d' p sz) 83 (0, 0)) from SB.out) (1 + sz) (.int .i64 i)) 13 (.int .i64 ((sz : Int) + 1))
            rw [stC_set _ _ _ _ _ (by omega), stC_size, ← hp6] at e
            exact e)
          have HP6 := Lib.hid hp6
          have R6 := Lib.hid (O6.out.keep RB.out (by simp; omega))
          clear s0 s1 s2 s3 s4 s5 s6 s7 s8 s9 s10 s11 s12 s13 r0 r1 r2 r3 r4 r5 r6 r7 r8 r9 r10 r11 r12 r13 fs fr o0 o1 o2 o3 o4 o5
          clear hw6 cM k5 hp6
          have s0 := cell_blk (show w6.heap[b4]? = some (.cells _ _ _) from S6.out) 0
          have s1 := cell_blk (show w6.heap[b4]? = some (.cells _ _ _) from S6.out) 1
          have s2 := cell_blk (show w6.heap[b4]? = some (.cells _ _ _) from S6.out) 2
          have s3 := cell_blk (show w6.heap[b4]? = some (.cells _ _ _) from S6.out) 3
          have s4 := cell_blk (show w6.heap[b4]? = some (.cells _ _ _) from S6.out) 4
          have s5 := cell_blk (show w6.heap[b4]? = some (.cells _ _ _) from S6.out) 5
          have s6 := cell_blk (show w6.heap[b4]? = some (.cells _ _ _) from S6.out) 6
          have s7 := cell_blk (show w6.heap[b4]? = some (.cells _ _ _) from S6.out) 7
          have s8 := cell_blk (show w6.heap[b4]? = some (.cells _ _ _) from S6.out) 8
          have s9 := cell_blk (show w6.heap[b4]? = some (.cells _ _ _) from S6.out) 9
          have s10 := cell_blk (show w6.heap[b4]? = some (.cells _ _ _) from S6.out) 10
          have s11 := cell_blk (show w6.heap[b4]? = some (.cells _ _ _) from S6.out) 11
          have s12 := cell_blk (show w6.heap[b4]? = some (.cells _ _ _) from S6.out) 12
          have s13 := cell_blk (show w6.heap[b4]? = some (.cells _ _ _) from S6.out) 13
          have fs := fun i => free_blk (show w6.heap[b4]? = some (.cells _ _ _) from S6.out) i
          simp [stC] at s0 s1 s2 s3 s4 s5 s6 s7 s8 s9 s10 s11 s12 s13
          have r0 := cell_blk (show w6.heap[b8]? = some (.cells _ _ _) from R6.out) 0
          have r1 := cell_blk (show w6.heap[b8]? = some (.cells _ _ _) from R6.out) 1
          have r2 := cell_blk (show w6.heap[b8]? = some (.cells _ _ _) from R6.out) 2
          have r3 := cell_blk (show w6.heap[b8]? = some (.cells _ _ _) from R6.out) 3
          have r4 := cell_blk (show w6.heap[b8]? = some (.cells _ _ _) from R6.out) 4
          have r5 := cell_blk (show w6.heap[b8]? = some (.cells _ _ _) from R6.out) 5
          have r6 := cell_blk (show w6.heap[b8]? = some (.cells _ _ _) from R6.out) 6
          have r7 := cell_blk (show w6.heap[b8]? = some (.cells _ _ _) from R6.out) 7
          have r8 := cell_blk (show w6.heap[b8]? = some (.cells _ _ _) from R6.out) 8
          have r9 := cell_blk (show w6.heap[b8]? = some (.cells _ _ _) from R6.out) 9
          have r10 := cell_blk (show w6.heap[b8]? = some (.cells _ _ _) from R6.out) 10
          have r11 := cell_blk (show w6.heap[b8]? = some (.cells _ _ _) from R6.out) 11
          have r12 := cell_blk (show w6.heap[b8]? = some (.cells _ _ _) from R6.out) 12
          have r13 := cell_blk (show w6.heap[b8]? = some (.cells _ _ _) from R6.out) 13
          have fr := fun i => free_blk (show w6.heap[b8]? = some (.cells _ _ _) from R6.out) i
          simp [stC] at r0 r1 r2 r3 r4 r5 r6 r7 r8 r9 r10 r11 r12 r13
          have hl64 := lt_of_blk S6.out
          have hl68 := lt_of_blk R6.out
          clear S6
          go_wp2_with fail
          obtain ⟨W, hW⟩ : ∃ W, W = ((((((((((((((w6).setCell ⟨b8, 0, none⟩ (.int .u16 d')).setCell ⟨b8, 1, none⟩ (.int .i64 (p6 0))).setCell ⟨b8, 2, none⟩ (.int .i64 (p6 1))).setCell ⟨b8, 3, none⟩ (.int .i64 (p6 2))).setCell ⟨b8, 4, none⟩ (.int .i64 (p6 3))).setCell ⟨b8, 5, none⟩ (.int .i64 (p6 4))).setCell ⟨b8, 6, none⟩ (.int .i64 (p6 5))).setCell ⟨b8, 7, none⟩ (.int .i64 (p6 6))).setCell ⟨b8, 8, none⟩ (.int .i64 (p6 7))).setCell ⟨b8, 9, none⟩ (.int .i64 (p6 8))).setCell ⟨b8, 10, none⟩ (.int .i64 (p6 9))).setCell ⟨b8, 11, none⟩ (.int .i64 (p6 10))).setCell ⟨b8, 12, none⟩ (.int .i64 (p6 11))).setCell ⟨b8, 13, none⟩ (.int .i64 ((sz : Int) + 1)) := ⟨_, rfl⟩
          rw [← hW]
          obtain ⟨hB, hOW⟩ := ap_blk R6.out hW
          have e0 := cell_blk (show W.heap[b8]? = some (.cells _ _ _) from hB) 0
          have e1 := cell_blk (show W.heap[b8]? = some (.cells _ _ _) from hB) 1
          have e2 := cell_blk (show W.heap[b8]? = some (.cells _ _ _) from hB) 2
          have e3 := cell_blk (show W.heap[b8]? = some (.cells _ _ _) from hB) 3
          have e4 := cell_blk (show W.heap[b8]? = some (.cells _ _ _) from hB) 4
          have e5 := cell_blk (show W.heap[b8]? = some (.cells _ _ _) from hB) 5
          have e6 := cell_blk (show W.heap[b8]? = some (.cells _ _ _) from hB) 6
          have e7 := cell_blk (show W.heap[b8]? = some (.cells _ _ _) from hB) 7
          have e8 := cell_blk (show W.heap[b8]? = some (.cells _ _ _) from hB) 8
          have e9 := cell_blk (show W.heap[b8]? = some (.cells _ _ _) from hB) 9
          have e10 := cell_blk (show W.heap[b8]? = some (.cells _ _ _) from hB) 10
          have e11 := cell_blk (show W.heap[b8]? = some (.cells _ _ _) from hB) 11
          have e12 := cell_blk (show W.heap[b8]? = some (.cells _ _ _) from hB) 12
          have e13 := cell_blk (show W.heap[b8]? = some (.cells _ _ _) from hB) 13
          simp [stC] at e0 e1 e2 e3 e4 e5 e6 e7 e8 e9 e10 e11 e12 e13
          refine bodyPost_ret (v := .tuple #[stA d' p6 ((sz : Int) + 1), .bool true]) (by simp [results, Tryz.results36, go_sem, e0, e1, e2, e3, e4, e5, e6, e7, e8, e9, e10, e11, e12, e13, stA, stC]) rfl ⟨_, _, rfl, (PP.out.trans O6.out (by simp; omega)).trans hOW (by simp; omega), ⟨_, _, _, rfl⟩, ap_post HO.out ?_⟩
          simp [k0, c0, hcp, HP6.out]
        · have hcp2 : decide ((sz : Int) < cap) = false := decide_eq_false hcp
          have hcp3 : decide (cap ≤ (sz : Int)) = true := decide_eq_true (by omega)
          go_wp2_with fail
          obtain ⟨W, hW⟩ : ∃ W, W = ((((((((((((((wc).setCell ⟨b8, 0, none⟩ (.int .u16 d')).setCell ⟨b8, 1, none⟩ (.int .i64 (p 0))).setCell ⟨b8, 2, none⟩ (.int .i64 (p 1))).setCell ⟨b8, 3, none⟩ (.int .i64 (p 2))).setCell ⟨b8, 4, none⟩ (.int .i64 (p 3))).setCell ⟨b8, 5, none⟩ (.int .i64 (p 4))).setCell ⟨b8, 6, none⟩ (.int .i64 (p 5))).setCell ⟨b8, 7, none⟩ (.int .i64 (p 6))).setCell ⟨b8, 8, none⟩ (.int .i64 (p 7))).setCell ⟨b8, 9, none⟩ (.int .i64 (p 8))).setCell ⟨b8, 10, none⟩ (.int .i64 (p 9))).setCell ⟨b8, 11, none⟩ (.int .i64 (p 10))).setCell ⟨b8, 12, none⟩ (.int .i64 (p 11))).setCell ⟨b8, 13, none⟩ (.int .i64 sz) := ⟨_, rfl⟩
          rw [← hW]
          obtain ⟨hB, hOW⟩ := ap_blk RB.out hW
          have e0 := cell_blk (show W.heap[b8]? = some (.cells _ _ _) from hB) 0
          have e1 := cell_blk (show W.heap[b8]? = some (.cells _ _ _) from hB) 1
          have e2 := cell_blk (show W.heap[b8]? = some (.cells _ _ _) from hB) 2
          have e3 := cell_blk (show W.heap[b8]? = some (.cells _ _ _) from hB) 3
          have e4 := cell_blk (show W.heap[b8]? = some (.cells _ _ _) from hB) 4
          have e5 := cell_blk (show W.heap[b8]? = some (.cells _ _ _) from hB) 5
          have e6 := cell_blk (show W.heap[b8]? = some (.cells _ _ _) from hB) 6
          have e7 := cell_blk (show W.heap[b8]? = some (.cells _ _ _) from hB) 7
          have e8 := cell_blk (show W.heap[b8]? = some (.cells _ _ _) from hB) 8
          have e9 := cell_blk (show W.heap[b8]? = some (.cells _ _ _) from hB) 9
          have e10 := cell_blk (show W.heap[b8]? = some (.cells _ _ _) from hB) 10
          have e11 := cell_blk (show W.heap[b8]? = some (.cells _ _ _) from hB) 11
          have e12 := cell_blk (show W.heap[b8]? = some (.cells _ _ _) from hB) 12
          have e13 := cell_blk (show W.heap[b8]? = some (.cells _ _ _) from hB) 13
          simp [stC] at e0 e1 e2 e3 e4 e5 e6 e7 e8 e9 e10 e11 e12 e13
          refine bodyPost_ret (v := .tuple #[stA d' p sz, .bool false]) (by simp [results, Tryz.results36, go_sem, e0, e1, e2, e3, e4, e5, e6, e7, e8, e9, e10, e11, e12, e13, stA, stC]) rfl ⟨_, _, rfl, PP.out.trans hOW (by simp; omega), ⟨_, _, _, rfl⟩, ap_post HO.out ?_⟩
          simp [k0, c0, hcp]
      · have cb0 : (o.code == 0) = false := by simpa using c0
        go_wp2_with fail
        go_region
        all_goals
          go_wp2_with fail
          obtain ⟨W, hW⟩ : ∃ W, W = ((((((((((((((wc).setCell ⟨b8, 0, none⟩ (.int .u16 d')).setCell ⟨b8, 1, none⟩ (.int .i64 (p 0))).setCell ⟨b8, 2, none⟩ (.int .i64 (p 1))).setCell ⟨b8, 3, none⟩ (.int .i64 (p 2))).setCell ⟨b8, 4, none⟩ (.int .i64 (p 3))).setCell ⟨b8, 5, none⟩ (.int .i64 (p 4))).setCell ⟨b8, 6, none⟩ (.int .i64 (p 5))).setCell ⟨b8, 7, none⟩ (.int .i64 (p 6))).setCell ⟨b8, 8, none⟩ (.int .i64 (p 7))).setCell ⟨b8, 9, none⟩ (.int .i64 (p 8))).setCell ⟨b8, 10, none⟩ (.int .i64 (p 9))).setCell ⟨b8, 11, none⟩ (.int .i64 (p 10))).setCell ⟨b8, 12, none⟩ (.int .i64 (p 11))).setCell ⟨b8, 13, none⟩ (.int .i64 sz) := ⟨_, rfl⟩
          rw [← hW]
          obtain ⟨hB, hOW⟩ := ap_blk RB.out hW
          replace hOW := hOW.drew
          have e0 := cell_blk (show W.drew.heap[b8]? = some (.cells _ _ _) from hB) 0
          have e1 := cell_blk (show W.drew.heap[b8]? = some (.cells _ _ _) from hB) 1
          have e2 := cell_blk (show W.drew.heap[b8]? = some (.cells _ _ _) from hB) 2
          have e3 := cell_blk (show W.drew.heap[b8]? = some (.cells _ _ _) from hB) 3
          have e4 := cell_blk (show W.drew.heap[b8]? = some (.cells _ _ _) from hB) 4
          have e5 := cell_blk (show W.drew.heap[b8]? = some (.cells _ _ _) from hB) 5
          have e6 := cell_blk (show W.drew.heap[b8]? = some (.cells _ _ _) from hB) 6
          have e7 := cell_blk (show W.drew.heap[b8]? = some (.cells _ _ _) from hB) 7
          have e8 := cell_blk (show W.drew.heap[b8]? = some (.cells _ _ _) from hB) 8
          have e9 := cell_blk (show W.drew.heap[b8]? = some (.cells _ _ _) from hB) 9
          have e10 := cell_blk (show W.drew.heap[b8]? = some (.cells _ _ _) from hB) 10
          have e11 := cell_blk (show W.drew.heap[b8]? = some (.cells _ _ _) from hB) 11
          have e12 := cell_blk (show W.drew.heap[b8]? = some (.cells _ _ _) from hB) 12
          have e13 := cell_blk (show W.drew.heap[b8]? = some (.cells _ _ _) from hB) 13
          simp [stC] at e0 e1 e2 e3 e4 e5 e6 e7 e8 e9 e10 e11 e12 e13
          refine bodyPost_ret (v := .tuple #[stA d' p sz, .bool (decide (cap ≤ (sz : Int)))]) (by simp [results, Tryz.results36, go_sem, e0, e1, e2, e3, e4, e5, e6, e7, e8, e9, e10, e11, e12, e13, stA, stC]) rfl ⟨_, _, rfl, PP.out.trans hOW (by simp; omega), ⟨_, _, _, rfl⟩, ap_post HO.out ?_⟩
          simp [k0, c0]
    · have kb0 : (o.kind == 0) = false := by simpa using k0
      by_cases c2 : o.code = 2
      · go_wp2_with fail
        go_region
        all_goals
          go_wp2_with fail
          obtain ⟨W, hW⟩ : ∃ W, W = ((((((((((((((wc).setCell ⟨b8, 0, none⟩ (.int .u16 d')).setCell ⟨b8, 1, none⟩ (.int .i64 (p 0))).setCell ⟨b8, 2, none⟩ (.int .i64 (p 1))).setCell ⟨b8, 3, none⟩ (.int .i64 (p 2))).setCell ⟨b8, 4, none⟩ (.int .i64 (p 3))).setCell ⟨b8, 5, none⟩ (.int .i64 (p 4))).setCell ⟨b8, 6, none⟩ (.int .i64 (p 5))).setCell ⟨b8, 7, none⟩ (.int .i64 (p 6))).setCell ⟨b8, 8, none⟩ (.int .i64 (p 7))).setCell ⟨b8, 9, none⟩ (.int .i64 (p 8))).setCell ⟨b8, 10, none⟩ (.int .i64 (p 9))).setCell ⟨b8, 11, none⟩ (.int .i64 (p 10))).setCell ⟨b8, 12, none⟩ (.int .i64 (p 11))).setCell ⟨b8, 13, none⟩ (.int .i64 sz) := ⟨_, rfl⟩
          rw [← hW]
          obtain ⟨hB, hOW⟩ := ap_blk RB.out hW
          replace hOW := hOW.drew
          have e0 := cell_blk (show W.drew.heap[b8]? = some (.cells _ _ _) from hB) 0
          have e1 := cell_blk (show W.drew.heap[b8]? = some (.cells _ _ _) from hB) 1
          have e2 := cell_blk (show W.drew.heap[b8]? = some (.cells _ _ _) from hB) 2
          have e3 := cell_blk (show W.drew.heap[b8]? = some (.cells _ _ _) from hB) 3
          have e4 := cell_blk (show W.drew.heap[b8]? = some (.cells _ _ _) from hB) 4
          have e5 := cell_blk (show W.drew.heap[b8]? = some (.cells _ _ _) from hB) 5
          have e6 := cell_blk (show W.drew.heap[b8]? = some (.cells _ _ _) from hB) 6
          have e7 := cell_blk (show W.drew.heap[b8]? = some (.cells _ _ _) from hB) 7
          have e8 := cell_blk (show W.drew.heap[b8]? = some (.cells _ _ _) from hB) 8
          have e9 := cell_blk (show W.drew.heap[b8]? = some (.cells _ _ _) from hB) 9
          have e10 := cell_blk (show W.drew.heap[b8]? = some (.cells _ _ _) from hB) 10
          have e11 := cell_blk (show W.drew.heap[b8]? = some (.cells _ _ _) from hB) 11
          have e12 := cell_blk (show W.drew.heap[b8]? = some (.cells _ _ _) from hB) 12
          have e13 := cell_blk (show W.drew.heap[b8]? = some (.cells _ _ _) from hB) 13
          simp [stC] at e0 e1 e2 e3 e4 e5 e6 e7 e8 e9 e10 e11 e12 e13
          refine bodyPost_ret (v := .tuple #[stA d' p sz, .bool ((sz : Int) == 0)]) (by simp [results, Tryz.results36, go_sem, e0, e1, e2, e3, e4, e5, e6, e7, e8, e9, e10, e11, e12, e13, stA, stC]) rfl ⟨_, _, rfl, PP.out.trans hOW (by simp; omega), ⟨_, _, _, rfl⟩, ap_post HO.out ?_⟩
          simp [k0, c2]; rw [Bool.eq_iff_iff]; simp
      · have cb2 : (o.code == 2) = false := by simpa using c2
        by_cases c4 : o.code = 4
        · go_wp2_with fail
          obtain ⟨W, hW⟩ : ∃ W, W = ((((((((((((((wc).setCell ⟨b8, 0, none⟩ (.int .u16 d')).setCell ⟨b8, 1, none⟩ (.int .i64 (p 0))).setCell ⟨b8, 2, none⟩ (.int .i64 (p 1))).setCell ⟨b8, 3, none⟩ (.int .i64 (p 2))).setCell ⟨b8, 4, none⟩ (.int .i64 (p 3))).setCell ⟨b8, 5, none⟩ (.int .i64 (p 4))).setCell ⟨b8, 6, none⟩ (.int .i64 (p 5))).setCell ⟨b8, 7, none⟩ (.int .i64 (p 6))).setCell ⟨b8, 8, none⟩ (.int .i64 (p 7))).setCell ⟨b8, 9, none⟩ (.int .i64 (p 8))).setCell ⟨b8, 10, none⟩ (.int .i64 (p 9))).setCell ⟨b8, 11, none⟩ (.int .i64 (p 10))).setCell ⟨b8, 12, none⟩ (.int .i64 (p 11))).setCell ⟨b8, 13, none⟩ (.int .i64 sz) := ⟨_, rfl⟩
          rw [← hW]
          obtain ⟨hB, hOW⟩ := ap_blk RB.out hW
          have e0 := cell_blk (show W.heap[b8]? = some (.cells _ _ _) from hB) 0
          have e1 := cell_blk (show W.heap[b8]? = some (.cells _ _ _) from hB) 1
          have e2 := cell_blk (show W.heap[b8]? = some (.cells _ _ _) from hB) 2
          have e3 := cell_blk (show W.heap[b8]? = some (.cells _ _ _) from hB) 3
          have e4 := cell_blk (show W.heap[b8]? = some (.cells _ _ _) from hB) 4
          have e5 := cell_blk (show W.heap[b8]? = some (.cells _ _ _) from hB) 5
          have e6 := cell_blk (show W.heap[b8]? = some (.cells _ _ _) from hB) 6
          have e7 := cell_blk (show W.heap[b8]? = some (.cells _ _ _) from hB) 7
          have e8 := cell_blk (show W.heap[b8]? = some (.cells _ _ _) from hB) 8
          have e9 := cell_blk (show W.heap[b8]? = some (.cells _ _ _) from hB) 9
          have e10 := cell_blk (show W.heap[b8]? = some (.cells _ _ _) from hB) 10
          have e11 := cell_blk (show W.heap[b8]? = some (.cells _ _ _) from hB) 11
          have e12 := cell_blk (show W.heap[b8]? = some (.cells _ _ _) from hB) 12
          have e13 := cell_blk (show W.heap[b8]? = some (.cells _ _ _) from hB) 13
          simp [stC] at e0 e1 e2 e3 e4 e5 e6 e7 e8 e9 e10 e11 e12 e13
          refine bodyPost_ret (v := .tuple #[stA d' p sz, .bool true]) (by simp [results, Tryz.results36, go_sem, e0, e1, e2, e3, e4, e5, e6, e7, e8, e9, e10, e11, e12, e13, stA, stC]) rfl ⟨_, _, rfl, PP.out.trans hOW (by simp; omega), ⟨_, _, _, rfl⟩, ap_post HO.out ?_⟩
          simp [k0, c4]
        · have cb4 : (o.code == 4) = false := by simpa using c4
          by_cases z0 : sz = 0
          · subst z0
            go_wp2_with fail
            obtain ⟨W, hW⟩ : ∃ W, W = ((((((((((((((wc).setCell ⟨b8, 0, none⟩ (.int .u16 d')).setCell ⟨b8, 1, none⟩ (.int .i64 (p 0))).setCell ⟨b8, 2, none⟩ (.int .i64 (p 1))).setCell ⟨b8, 3, none⟩ (.int .i64 (p 2))).setCell ⟨b8, 4, none⟩ (.int .i64 (p 3))).setCell ⟨b8, 5, none⟩ (.int .i64 (p 4))).setCell ⟨b8, 6, none⟩ (.int .i64 (p 5))).setCell ⟨b8, 7, none⟩ (.int .i64 (p 6))).setCell ⟨b8, 8, none⟩ (.int .i64 (p 7))).setCell ⟨b8, 9, none⟩ (.int .i64 (p 8))).setCell ⟨b8, 10, none⟩ (.int .i64 (p 9))).setCell ⟨b8, 11, none⟩ (.int .i64 (p 10))).setCell ⟨b8, 12, none⟩ (.int .i64 (p 11))).setCell ⟨b8, 13, none⟩ (.int .i64 0) := ⟨_, rfl⟩
            rw [← hW]
            obtain ⟨hB, hOW⟩ := ap_blk RB.out hW
            have e0 := cell_blk (show W.heap[b8]? = some (.cells _ _ _) from hB) 0
            have e1 := cell_blk (show W.heap[b8]? = some (.cells _ _ _) from hB) 1
            have e2 := cell_blk (show W.heap[b8]? = some (.cells _ _ _) from hB) 2
            have e3 := cell_blk (show W.heap[b8]? = some (.cells _ _ _) from hB) 3
            have e4 := cell_blk (show W.heap[b8]? = some (.cells _ _ _) from hB) 4
            have e5 := cell_blk (show W.heap[b8]? = some (.cells _ _ _) from hB) 5
            have e6 := cell_blk (show W.heap[b8]? = some (.cells _ _ _) from hB) 6
            have e7 := cell_blk (show W.heap[b8]? = some (.cells _ _ _) from hB) 7
            have e8 := cell_blk (show W.heap[b8]? = some (.cells _ _ _) from hB) 8
            have e9 := cell_blk (show W.heap[b8]? = some (.cells _ _ _) from hB) 9
            have e10 := cell_blk (show W.heap[b8]? = some (.cells _ _ _) from hB) 10
            have e11 := cell_blk (show W.heap[b8]? = some (.cells _ _ _) from hB) 11
            have e12 := cell_blk (show W.heap[b8]? = some (.cells _ _ _) from hB) 12
            have e13 := cell_blk (show W.heap[b8]? = some (.cells _ _ _) from hB) 13
            simp [stC] at e0 e1 e2 e3 e4 e5 e6 e7 e8 e9 e10 e11 e12 e13
            refine bodyPost_ret (v := .tuple #[stA d' p 0, .bool false]) (by simp [results, Tryz.results36, go_sem, e0, e1, e2, e3, e4, e5, e6, e7, e8, e9, e10, e11, e12, e13, stA, stC]) rfl ⟨_, _, rfl, PP.out.trans hOW (by simp; omega), ⟨_, _, _, rfl⟩, ap_post HO.out ?_⟩
            simp [k0, c2, c4]
          · exact absurd hsp (by omega)

end Go.Proofs.YtfhkhknnoepfeaaGreat
