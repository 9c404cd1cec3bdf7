/- The search for an order, walked. -/
import Derived.Test.YtfhkhknnoepfeaaGreatMgG
import Derived.StillTailTactics
import Derived.Deep.RegionLaw
import Derived.Deep.RegionHeld3
namespace Go.Proofs.YtfhkhknnoepfeaaGreat
open Go.RowKit Go.ChangeMaps Go.MapKept Go.Maps
open Go.Maps (Keyed)
set_option linter.unusedVariables false

theorem zeroBool (w : World) : (zeroValue 4).run Tryz.prog w = .ok (.bool false) w := by kernel_rfl

theorem stV_inj {d d' : Nat} {L L' : List Nat} (hl : L.length ≤ 12) (hl' : L'.length ≤ 12) (h : stV d L = stV d' L') : d = d' ∧ L = L' := by
  unfold stV stA stC at h
  simp at h
  obtain ⟨h0, h1, h2, h3, h4, h5, h6, h7, h8, h9, h10, h11, h12, h13⟩ := h
  have h13' : L.length = L'.length := by omega
  refine ⟨by omega, List.ext_getElem h13' fun j g1 g2 => ?_⟩
  have hj : j < 12 := by omega
  have hp : plc L j = plc L' j := by
    match j, hj with
    | 0, _ => exact h1
    | 1, _ => exact h2
    | 2, _ => exact h3
    | 3, _ => exact h4
    | 4, _ => exact h5
    | 5, _ => exact h6
    | 6, _ => exact h7
    | 7, _ => exact h8
    | 8, _ => exact h9
    | 9, _ => exact h10
    | 10, _ => exact h11
    | 11, _ => exact h12
  unfold plc at hp
  rw [List.getD_eq_getElem?_getD, List.getD_eq_getElem?_getD, List.getElem?_eq_getElem g1, List.getElem?_eq_getElem g2] at hp
  simp at hp
  omega

/-- 'm[k]' (without 'ok') at elements that are bools. -/
theorem wpList_lookup_own_bool {P : Program} (w : World) {ops : Array Oper} {rest : List Oper} {o : Oper} {a : Act} {Q : Exit → Act → World → Prop}
    (hg : o.guard = none) (m x : Operand) (t : TypeId) (hop : o.op = Op.lookup t m x false)
    (k e : TypeId) (K : Keyed P k) (ht : P.underlying t = some (.map k e)) (he : P.underlying e = some .bool) (hz : (zeroValue e).run P w = .ok (.bool false) w) (b n : Nat) (D : DataW Unit)
    (hm : a.eval m = .map (some b)) (hown : w.ownsMap P k (plainElem P e) b n D) (key : Value) (kl : Lit) (hx : a.eval x = key) (hkey : keyOf P k key = some kl)
    (hK : ∀ c : Bool, D.atKey kl (.lit (.bool false)) = .lit (.bool c) → wpList P ops Q rest (a.put o.dst (.bool c)) w) :
    wpList P ops Q (o :: rest) a w := by
  refine wpList_plain hg fun K' hK' => ?_
  obtain ⟨v, ps, hrun, hv⟩ := hown.lookup K ht hz (plainElem_bool he false) hkey
  obtain ⟨c, rfl, hc⟩ : ∃ c, v = .bool c ∧ D.atKey kl (.lit (.bool false)) = .lit (.bool c) := by
    cases v <;> simp [plainElem, he] at hv
    exact ⟨_, rfl, hv.1.symm⟩
  unfold Oper.wp
  simp [execOp, hop, hm, hx, hrun, Result.andThen]
  exact hK' _ _ (hK c hc)

/-- What the map of failures says is so. -/
def MemoOK (l : List HOp) (cap : Int) (D : DataW Unit) : Prop := ∀ (d : Nat) (L : List Nat) (kl : Lit), L.length ≤ 12 → keyOf Tryz.prog 83 (stV d L) = some kl → D.atKey kl (.lit (.bool false)) = .lit (.bool true) →
  ordr (fun a => l.getD a HOp.zero) l.length cap (leftU l.length (bitsU d)) (bitsU d) (vals (fun a => l.getD a HOp.zero) L) = false
theorem memo_put {l : List HOp} {cap : Int} {D : DataW Unit} {d : Nat} {L : List Nat} {kl : Lit} (h : MemoOK l cap D) (hm : IsMap D) (hl : L.length ≤ 12) (hk : keyOf Tryz.prog 83 (stV d L) = some kl)
    (ho : ordr (fun a => l.getD a HOp.zero) l.length cap (leftU l.length (bitsU d)) (bitsU d) (vals (fun a => l.getD a HOp.zero) L) = false) : MemoOK l cap (D.put kl (.lit (.bool true))) := by
  intro d2 L2 kl2 h1 h2 h3
  by_cases e : kl2 = kl
  · subst e
    obtain ⟨rfl, rfl⟩ := stV_inj h1 hl (lawSt0.inj h2 hk)
    exact ho
  · rw [atKey_put_other e] at h3
    exact h d2 L2 kl2 h1 h2 h3

/-- The search's record. -/
structure SI (w : World) (xb mb eb : Nat) (ov ev : Value) (l : List HOp) (cap : Int) : Prop where
  X : w.heap[xb]? = some (.cells #[ov, ev, .int .i64 cap, .map (some mb)] 77 (0, 0))
  O : OL w ov l
  E : RowAt w ev eb 80 (bfRow l l.length 0)

theorem map_ne {w : World} {P : Program} {k : TypeId} {R : Value → Option (DataW Unit × List MemPlace)} {mb m : Nat} {D : DataW Unit} (h : w.ownsMap P k R mb m D) {p : Addr} {v : Value} (hc : w.cell? p = some v) : p.block ≠ mb := by
  intro e
  obtain ⟨es, clock, hb, _⟩ := h
  simp [World.cell?, e, hb] at hc
theorem SI.keep {w w' : World} {xb mb eb : Nat} {ov ev : Value} {l : List HOp} {cap : Int} {m : Nat} {D : DataW Unit} (h : SI w xb mb eb ov ev l cap) (hM : w.ownsMap Tryz.prog 83 (plainElem Tryz.prog 4) mb m D) (o : Only [mb] w w') (hl : 0 < l.length) : SI w' xb mb eb ov ev l cap := by
  have hx : xb ≠ mb := by
    have := cell_blk h.X 0
    exact map_ne hM (p := ⟨xb, 0, none⟩) this
  obtain ⟨ao, c, e, hc, hh⟩ := h.O
  obtain ⟨b, off, e2, hat⟩ := hh hl
  have hb : b ≠ mb := map_ne hM (hat 0 hl).1
  have he : eb ≠ mb := by
    obtain ⟨cap2, _, _, _, hcell, _⟩ := h.E.at (by rw [bfRow_len]; exact hl)
    exact map_ne hM (hcell 0 (by rw [bfRow_len]; exact hl))
  exact ⟨o.keep h.X (by simp; exact hx), ⟨ao, c, e, hc, fun hp => ⟨b, off, e2, fun i hi => (hat i hi).keep o (by simp; exact hb)⟩⟩, h.E.keep o (by simp; exact he)⟩
theorem SI.keep0 {w w' : World} {xb mb eb : Nat} {ov ev : Value} {l : List HOp} {cap : Int} (h : SI w xb mb eb ov ev l cap) (o : Only [] w w') : SI w' xb mb eb ov ev l cap := ⟨o.keep h.X (by simp), h.O.keep o, h.E.keep o (by simp)⟩

theorem map_keep {w w' : World} {P : Program} {k : TypeId} {R : Value → Option (DataW Unit × List MemPlace)} {mb m : Nat} {D : DataW Unit} (h : w.ownsMap P k R mb m D) (o : Only [] w w') : w'.ownsMap P k R mb m D := by
  obtain ⟨es, clock, hb, r⟩ := h
  exact ⟨es, clock, o.keep hb (by simp), r⟩
theorem plAct_mem {f : Nat → HOp} {i : Nat} {L L' : List Nat} {cap : Int} (h : plAct f i L cap = some L') : (∀ q ∈ L', q ∈ L ∨ q = i) ∧ L'.length ≤ L.length + 1 := by
  unfold plAct at h
  have same : L = L' → (∀ q ∈ L', q ∈ L ∨ q = i) ∧ L'.length ≤ L.length + 1 := fun e => by rw [← e]; exact ⟨fun q hq => .inl hq, by omega⟩
  split at h
  · split at h
    · cases h; exact ⟨fun q hq => by simpa using hq, by simp⟩
    · cases h
  · split at h
    · split at h
      · exact same (by simpa using h)
      · cases h
    · split at h
      · split at h
        · exact same (by simpa using h)
        · cases h
      · split at h
        · exact same (by simpa using h)
        · split at h
          · cases h
          · split at h
            · split at h
              · cases h; exact ⟨fun q hq => .inl (List.mem_of_mem_tail hq), by simp; omega⟩
              · cases h
            · split at h
              · cases h; exact ⟨fun q hq => .inl ((List.dropLast_sublist _).mem hq), by simp; omega⟩
              · cases h

/-- How many entries a search can make. -/
def bdS : Nat → Nat
  | 0 => 0
  | k + 1 => 12 * bdS k + 1
/-- What the search comes to. -/
def FromPost (l : List HOp) (cap : Int) (mb left d m : Nat) (L : List Nat) (w : World) (e : Ending) (w' : World) : Prop :=
  ∃ (D' : DataW Unit) (m' : Nat), e = .returned (.bool (ordr (fun a => l.getD a HOp.zero) l.length cap left (bitsU d) (vals (fun a => l.getD a HOp.zero) L))) ∧ Only [mb] w w' ∧ w'.ownsMap Tryz.prog 83 (plainElem Tryz.prog 4) mb m' D' ∧ m' ≤ m + bdS left ∧ MemoOK l cap D'

set_option maxRecDepth 100000 in
set_option maxHeartbeats 40000000 in
theorem from_any (l : List HOp) (cap : Int) (xb mb eb : Nat) (ov ev : Value) (hn0 : 0 < l.length) (hn : l.length ≤ 12) (hf : ∀ i, i < l.length → (l.getD i HOp.zero).formed = true) : ∀ (left : Nat) (w : World) (d m : Nat) (L : List Nat) (D : DataW Unit),
    SI w xb mb eb ov ev l cap → w.ownsMap Tryz.prog 83 (plainElem Tryz.prog 4) mb m D → MemoOK l cap D → left = leftU l.length (bitsU d) → d < 65536 → L.length + left ≤ l.length → (∀ q ∈ L, q < l.length) → m + bdS left ≤ 9000000000000 →
    Calls Tryz.prog 27 #[.pointer (some ⟨xb, 0, none⟩), stV d L, .int .i64 left] w (FromPost l cap mb left d m L w) := by
  intro left
  induction left with
  | zero =>
    intro w d m L D hS hM hO hl hd hL hq hm
    --<Z
    go_enter Tryz.func27, Tryz.ntmps27
    simp only [stV, stA, stC]
    go_wp2_with fail
    go_ret
    exact ⟨D, m, rfl, (Only.refl _ _).alloc _, hM.alloc _, by omega, hO⟩
    --Z>
  | succ k ih =>
    intro w d m L D hS hM hO hl hd hL hq hm
    obtain ⟨n, hnn⟩ : ∃ n, n = l.length := ⟨_, rfl⟩
    obtain ⟨kl, hkl⟩ : ∃ kl, keyOf Tryz.prog 83 (stV d L) = some kl := key_st ⟨by omega, by omega⟩ (fun j => by
      unfold plc inI
      by_cases hj : j < L.length
      · have := hq (L.getD j 0) (by rw [List.getD_eq_getElem?_getD, List.getElem?_eq_getElem hj]; exact List.getElem_mem hj)
        omega
      · rw [List.getD_eq_getElem?_getD, List.getElem?_eq_none (by omega)]; simp) (by unfold inI; omega)
    have S0 := Lib.hid hS
    have M0 := Lib.hid hM
    have MO0 := Lib.hid hO
    have KL := Lib.hid hkl
    have x0 := cell_blk hS.X 0
    have x1 := cell_blk hS.X 1
    have x2 := cell_blk hS.X 2
    have x3 := cell_blk hS.X 3
    simp at x0 x1 x2 x3
    have hxl := lt_of_blk hS.X
    have hkl' := hkl
    simp only [stV, stA, stC] at hkl'
    have HKL := Lib.hid hkl'
    have HL := Lib.hid hl
    have IH := Lib.hid ih
    clear hS hM hO hkl hkl' hl ih
    have hk0 : (((k + 1 : Nat) : Int) == 0) = false := by simp; omega
    have hk1 : ((k + 1 : Nat) : Int) - 1 = k := by omega
    have hk2 : ((k + 1 : Nat) : Int) = (k : Int) + 1 := by omega
    go_enter Tryz.func27, Tryz.ntmps27
    simp only [stV, stA, stC]
    go_upto_region 3 with fail
    obtain ⟨w2, hw2⟩ : ∃ w2, w2 = w.alloc (.cells #[.int .u16 d, .int .i64 (plc L 0), .int .i64 (plc L 1), .int .i64 (plc L 2), .int .i64 (plc L 3), .int .i64 (plc L 4), .int .i64 (plc L 5), .int .i64 (plc L 6), .int .i64 (plc L 7), .int .i64 (plc L 8), .int .i64 (plc L 9), .int .i64 (plc L 10), .int .i64 (plc L 11), .int .i64 L.length] 83) := ⟨_, rfl⟩
    obtain ⟨b4, hb4⟩ : ∃ b4, b4 = w.heap.size := ⟨_, rfl⟩
    rw [← hw2, ← hb4]
    have T4 : w2.heap[b4]? = some (stO d (plc L) L.length) := by rw [hw2, hb4]; exact blk_alloc_new w (stO d (plc L) L.length)
    have o2 : Only [] w w2 := by rw [hw2]; exact (Only.refl _ _).alloc _
    have O2 := Lib.hid o2
    have SI2 := Lib.hid (S0.out.keep0 o2)
    have M2 : Hid (w2.ownsMap Tryz.prog 83 (plainElem Tryz.prog 4) mb m D) := Lib.hid (by rw [hw2]; exact M0.out.alloc _)
    have TT4 := Lib.hid T4
    have hb4m : b4 ≠ mb := map_ne M2.out (p := ⟨b4, 0, none⟩) (v := .int .u16 d) (by rw [cell_blk T4]; rfl)
    have hxm : xb ≠ mb := map_ne M0.out (p := ⟨xb, 0, none⟩) x0
    have s0 := cell_blk (show w2.heap[b4]? = some (.cells _ _ _) from T4) 0
    have s1 := cell_blk (show w2.heap[b4]? = some (.cells _ _ _) from T4) 1
    have s2 := cell_blk (show w2.heap[b4]? = some (.cells _ _ _) from T4) 2
    have s3 := cell_blk (show w2.heap[b4]? = some (.cells _ _ _) from T4) 3
    have s4 := cell_blk (show w2.heap[b4]? = some (.cells _ _ _) from T4) 4
    have s5 := cell_blk (show w2.heap[b4]? = some (.cells _ _ _) from T4) 5
    have s6 := cell_blk (show w2.heap[b4]? = some (.cells _ _ _) from T4) 6
    have s7 := cell_blk (show w2.heap[b4]? = some (.cells _ _ _) from T4) 7
    have s8 := cell_blk (show w2.heap[b4]? = some (.cells _ _ _) from T4) 8
    have s9 := cell_blk (show w2.heap[b4]? = some (.cells _ _ _) from T4) 9
    have s10 := cell_blk (show w2.heap[b4]? = some (.cells _ _ _) from T4) 10
    have s11 := cell_blk (show w2.heap[b4]? = some (.cells _ _ _) from T4) 11
    have s12 := cell_blk (show w2.heap[b4]? = some (.cells _ _ _) from T4) 12
    have s13 := cell_blk (show w2.heap[b4]? = some (.cells _ _ _) from T4) 13
    simp [stC] at s0 s1 s2 s3 s4 s5 s6 s7 s8 s9 s10 s11 s12 s13
    have y0 := o2.keepCell x0 (by simp)
    have y1 := o2.keepCell x1 (by simp)
    have y2 := o2.keepCell x2 (by simp)
    have y3 := o2.keepCell x3 (by simp)
    clear o2 hw2 hb4 x0 x1 x2 x3 T4 hxl
    go_still_tail 5, (by kernel_rfl)
    change wpList _ _ _ _ _ w2.drew
    go_wp2_with (at_lookup; refine wpList_lookup_own_bool _ rfl _ _ 75 rfl 83 4 lawSt Tryz.underlying75 Tryz.underlying4 (zeroBool _) mb m D rfl M2.out _ kl rfl HKL.out ?_)
    refine ⟨fun _ => ?_, fun hat => ?_⟩
    rotate_left
    · have HF := Lib.hid (MO0.out d L kl (by omega) KL.out hat)
      go_wp2_with fail
      go_ret
      exact ⟨D, m, by have h := HF.out; rw [← HL.out] at h; rw [h]; rfl, (O2.out.drew).mono (by simp), M2.out, by omega, MO0.out⟩
    · have hord0 : Hid (∀ i, i < 0 → ¬ (bitsU d i = false ∧ firstU (fun a => l.getD a HOp.zero) l.length (bitsU d) i = true ∧ ∃ L', plAct (fun a => l.getD a HOp.zero) i L cap = some L' ∧ ordr (fun a => l.getD a HOp.zero) l.length cap k (setU (bitsU d) i) (vals (fun a => l.getD a HOp.zero) L') = true)) := Lib.hid (fun i hi => by omega)
      obtain ⟨ao, c1, rfl, hc1, hat1⟩ := SI2.out.O
      rw [← hnn] at hc1 hat1
      go_wp2_with fail
      go_loopw [23] (fun iv wr => ∃ (j m' : Nat) (D' : DataW Unit), j ≤ n ∧ iv = .int .i64 j ∧ Only [mb] w2 wr ∧ wr.ownsMap Tryz.prog 83 (plainElem Tryz.prog 4) mb m' D' ∧ m' ≤ m + j * bdS k ∧ MemoOK l cap D' ∧
        (∀ i, i < j → ¬ (bitsU d i = false ∧ firstU (fun a => l.getD a HOp.zero) l.length (bitsU d) i = true ∧ ∃ L', plAct (fun a => l.getD a HOp.zero) i L cap = some L' ∧ ordr (fun a => l.getD a HOp.zero) l.length cap k (setU (bitsU d) i) (vals (fun a => l.getD a HOp.zero) L') = true))) (fun iv _ => n - (intOf iv).toNat)
      case atStart => exact ⟨0, m, D, Nat.zero_le _, rfl, (Only.refl _ _).drew, M2.out, by omega, MO0.out, hord0.out⟩
      case round =>
        obtain ⟨j, m', D', hj, rfl, hP, hM, hmm, hMO, hno⟩ := hrel
        have P := Lib.hid hP
        have MR := Lib.hid hM
        have MOR := Lib.hid hMO
        have NO := Lib.hid hno
        have SIR := Lib.hid (SI2.out.keep M2.out hP hn0)
        have TR := Lib.hid (hP.keep TT4.out (by simp; exact hb4m))
        have z0 := hP.keepCell y0 (by simp; exact hxm)
        have z1 := hP.keepCell y1 (by simp; exact hxm)
        have z2 := hP.keepCell y2 (by simp; exact hxm)
        have z3 := hP.keepCell y3 (by simp; exact hxm)
        have u0' := cell_blk (show wr.heap[b4]? = some (.cells _ _ _) from TR.out) 0
        have u1' := cell_blk (show wr.heap[b4]? = some (.cells _ _ _) from TR.out) 1
        have u2' := cell_blk (show wr.heap[b4]? = some (.cells _ _ _) from TR.out) 2
        have u3' := cell_blk (show wr.heap[b4]? = some (.cells _ _ _) from TR.out) 3
        have u4' := cell_blk (show wr.heap[b4]? = some (.cells _ _ _) from TR.out) 4
        have u5' := cell_blk (show wr.heap[b4]? = some (.cells _ _ _) from TR.out) 5
        have u6' := cell_blk (show wr.heap[b4]? = some (.cells _ _ _) from TR.out) 6
        have u7' := cell_blk (show wr.heap[b4]? = some (.cells _ _ _) from TR.out) 7
        have u8' := cell_blk (show wr.heap[b4]? = some (.cells _ _ _) from TR.out) 8
        have u9' := cell_blk (show wr.heap[b4]? = some (.cells _ _ _) from TR.out) 9
        have u10' := cell_blk (show wr.heap[b4]? = some (.cells _ _ _) from TR.out) 10
        have u11' := cell_blk (show wr.heap[b4]? = some (.cells _ _ _) from TR.out) 11
        have u12' := cell_blk (show wr.heap[b4]? = some (.cells _ _ _) from TR.out) 12
        have u13' := cell_blk (show wr.heap[b4]? = some (.cells _ _ _) from TR.out) 13
        simp [stC] at u0' u1' u2' u3' u4' u5' u6' u7' u8' u9' u10' u11' u12' u13'
        clear hP hM hMO hno s0 s1 s2 s3 s4 s5 s6 s7 s8 s9 s10 s11 s12 s13 y0 y1 y2 y3
        by_cases hlt : j < n
        · obtain ⟨ecap, rfl, _, _, hec, _, _⟩ := SIR.out.E.at (by rw [bfRow_len]; omega)
          have hej := hec j (by rw [bfRow_len]; omega)
          have hejv := bfRow_at l l.length 0 
          obtain ⟨E, hE⟩ : ∃ E, E = earlyN (fun a => l.getD a HOp.zero) (l.getD j HOp.zero).frm l.length := ⟨_, rfl⟩
          have hEl : E < 65536 := by
            have h1 := earlyN_lt (fun a => l.getD a HOp.zero) (l.getD j HOp.zero).frm l.length
            rw [← hE] at h1
            have h2 : 2 ^ l.length ≤ 2 ^ 12 := Nat.pow_le_pow_right (by omega) hn
            omega
          have hej2 : wr.cell? ⟨eb, j, none⟩ = some (.int .u16 E) := by
            rw [hej]
            congr 1
            simp only [bfRow, List.getElem_map, List.getElem_range]
            rw [if_pos (by omega), ← hE]
          have FB : Hid ((bits .andNot .u16 (E : Int) (d : Int) != 0) = true ↔ ¬ firstU (fun a => l.getD a HOp.zero) l.length (bitsU d) j = true) := Lib.hid (by rw [andnot_zero E d hEl hd, first_bits, hE])
          have hG := shr_bit d j hd (by omega)
          have hw64 : IntKind.u64.wrap (j : Int) = j := by rw [IntKind.wrap_u64]; omega
          have hmin : min j 16 = j := by omega
          rw [hw64, Int.toNat_natCast, hmin] at hG
          obtain ⟨sh, hsh⟩ : ∃ sh : Int, sh = (d : Int) / 2 ^ j := ⟨_, rfl⟩
          rw [← hsh] at hG
          obtain ⟨bt, hbt⟩ : ∃ bt : Int, bt = bits .and .u16 sh 1 := ⟨_, rfl⟩
          rw [← hbt] at hG
          have hS := hsh.symm
          have hB2 := hbt.symm
          clear hsh hbt
          have hbl : (bfRow l l.length 0).length = n := by rw [bfRow_len, hnn]
          rw [hbl] at z1
          clear hej hejv hE hec
          have step : Hid (∀ (i : Nat), i < j + 1 → ¬ (bitsU d j = false ∧ firstU (fun a => l.getD a HOp.zero) l.length (bitsU d) j = true ∧ ∃ L', plAct (fun a => l.getD a HOp.zero) j L cap = some L' ∧ ordr (fun a => l.getD a HOp.zero) l.length cap k (setU (bitsU d) j) (vals (fun a => l.getD a HOp.zero) L') = true) →
              ¬ (bitsU d i = false ∧ firstU (fun a => l.getD a HOp.zero) l.length (bitsU d) i = true ∧ ∃ L', plAct (fun a => l.getD a HOp.zero) i L cap = some L' ∧ ordr (fun a => l.getD a HOp.zero) l.length cap k (setU (bitsU d) i) (vals (fun a => l.getD a HOp.zero) L') = true)) := Lib.hid (fun i hi hj2 => by
            by_cases e : i = j
            · rw [e]; exact hj2
            · exact NO.out i (by omega))
          have HAR : Hid (m' ≤ m + (j + 1) * bdS k ∧ m' + bdS k ≤ m + (j + 1) * bdS k ∧ m' + bdS k ≤ 9000000000000) := Lib.hid (by
            have hbd : bdS (k + 1) = 12 * bdS k + 1 := rfl
            have hjb : m + j * bdS k + bdS k ≤ m + (j + 1) * bdS k := by rw [Nat.add_mul]; omega
            have hj12 : (j + 1) * bdS k ≤ 12 * bdS k := Nat.mul_le_mul_right _ (by omega)
            omega)
          have HMM := Lib.hid hmm
          have HQ := Lib.hid hq
          have HM0 := Lib.hid hm
          clear hmm hq hm hk0 hk1 hk2
          cases hb : d.testBit j with
          | true =>
            --<T1
            rw [hb] at hG
            have HB := Lib.hid hb
            clear hb
            go_wp2_with fail
            go_quiet (fail)
            go_wp2_with fail
            go_roundw
            case rel => exact ⟨j + 1, m', D', by omega, by go_num, P.out.drewN _, MR.out, HAR.out.1, MOR.out, fun i hi => step.out i hi (fun h => by rw [bitsU, HB.out] at h; exact absurd h.1 (by simp))⟩
            case measure => simp [intOf]; omega
            --T1>
          | false =>
            rw [hb] at hG
            have HB := Lib.hid hb
            obtain ⟨an, han⟩ : ∃ an : Int, an = bits .andNot .u16 (E : Int) (d : Int) := ⟨_, rfl⟩
            rw [← han] at FB
            have hAN := han.symm
            obtain ⟨cA, hcA⟩ : ∃ cA, cA = (an != 0) := ⟨_, rfl⟩
            have hA := hcA.symm
            rw [← hcA] at FB
            clear hcA han hb
            cases cA with
            | true =>
              --<T2
              go_wp2_with fail
              go_quiet (fail)
              go_wp2_with fail
              go_roundw
              case rel => exact ⟨j + 1, m', D', by omega, by go_num, P.out.drewN _, MR.out, HAR.out.1, MOR.out, fun i hi => step.out i hi (fun h => FB.out.1 (by trivial) h.2.1)⟩
              case measure => simp [intOf]; omega
              --T2>
            | false =>
              have hfirst : Hid (firstU (fun a => l.getD a HOp.zero) l.length (bitsU d) j = true) := Lib.hid (by
                cases e : firstU (fun a => l.getD a HOp.zero) l.length (bitsU d) j with
                | true => rfl
                | false => have := FB.out.2 (by rw [e]; simp); cases this)
              have AP : ∀ w', Only [] wr w' → Hid (Calls Tryz.prog 36 #[(.agg #[.int .u16 d, .int .i64 (plc L 0), .int .i64 (plc L 1), .int .i64 (plc L 2), .int .i64 (plc L 3), .int .i64 (plc L 4), .int .i64 (plc L 5), .int .i64 (plc L 6), .int .i64 (plc L 7), .int .i64 (plc L 8), .int .i64 (plc L 9), .int .i64 (plc L 10), .int .i64 (plc L 11), .int .i64 L.length]), .slice ao l.length c1, .int .i64 j, .int .i64 cap] w' _) := fun w' o => Lib.hid (apply_places w' (.slice ao l.length c1) l (SIR.out.keep0 o).O d L j cap (by omega) hn hd (by omega) HQ.out)
              go_wp2_with fail
              go_quiet (fail)
              have HD := Lib.hid hd
              have HLL := Lib.hid hL
              clear hG hA hS hB2 hej2 hw64 hmin hbl hEl hAN hd hL
              --<R0
              generalize hwq : wr.drewN nq = wq
              have OQ : Hid (Only [] wr wq) := Lib.hid (by rw [← hwq]; exact (Only.refl _ _).drewN _)
              have KS : ∀ w', Only [] wr w' → Hid (w'.cell? ⟨xb, 0, none⟩ = some (.slice ao l.length c1) ∧ w'.cell? ⟨xb, 2, none⟩ = some (.int .i64 cap) ∧ w'.cell? ⟨b4, 0, none⟩ = some (.int .u16 d) ∧ w'.cell? ⟨b4, 1, none⟩ = some (.int .i64 (plc L 0)) ∧ w'.cell? ⟨b4, 2, none⟩ = some (.int .i64 (plc L 1)) ∧ w'.cell? ⟨b4, 3, none⟩ = some (.int .i64 (plc L 2)) ∧ w'.cell? ⟨b4, 4, none⟩ = some (.int .i64 (plc L 3)) ∧ w'.cell? ⟨b4, 5, none⟩ = some (.int .i64 (plc L 4)) ∧ w'.cell? ⟨b4, 6, none⟩ = some (.int .i64 (plc L 5)) ∧ w'.cell? ⟨b4, 7, none⟩ = some (.int .i64 (plc L 6)) ∧ w'.cell? ⟨b4, 8, none⟩ = some (.int .i64 (plc L 7)) ∧ w'.cell? ⟨b4, 9, none⟩ = some (.int .i64 (plc L 8)) ∧ w'.cell? ⟨b4, 10, none⟩ = some (.int .i64 (plc L 9)) ∧ w'.cell? ⟨b4, 11, none⟩ = some (.int .i64 (plc L 10)) ∧ w'.cell? ⟨b4, 12, none⟩ = some (.int .i64 (plc L 11)) ∧ w'.cell? ⟨b4, 13, none⟩ = some (.int .i64 L.length)) := fun w' o => Lib.hid ⟨o.keepCell z0 (by simp), o.keepCell z2 (by simp), o.keepCell u0' (by simp), o.keepCell u1' (by simp), o.keepCell u2' (by simp), o.keepCell u3' (by simp), o.keepCell u4' (by simp), o.keepCell u5' (by simp), o.keepCell u6' (by simp), o.keepCell u7' (by simp), o.keepCell u8' (by simp), o.keepCell u9' (by simp), o.keepCell u10' (by simp), o.keepCell u11' (by simp), o.keepCell u12' (by simp), o.keepCell u13' (by simp)⟩
              obtain ⟨zq0, zq2, uq0', uq1', uq2', uq3', uq4', uq5', uq6', uq7', uq8', uq9', uq10', uq11', uq12', uq13'⟩ := (KS _ OQ.out).out
              clear hwq z0 z1 z2 z3 u0' u1' u2' u3' u4' u5' u6' u7' u8' u9' u10' u11' u12' u13'
              have hsz : wr.heap.size ≤ wq.heap.size := OQ.out.size
              have hbq : b4 < wq.heap.size := lt_of_blk (OQ.out.keep TR.out (by simp))
              have hxq : xb < wq.heap.size := lt_of_blk (OQ.out.keep SIR.out.X (by simp))
              go_upto_region 9 with fail
              go_cut [8, 9] (fun s8 s9 wx => ∃ (b8 : Nat) (ok : Bool) (a : Int) (pp : Nat → Int) (cc : Int), s8 = .pointer (some ⟨b8, 0, none⟩) ∧ s9 = .bool ok ∧ wx.heap[b8]? = some (stO a pp cc) ∧ Only [] wr wx ∧
                ((ok = true ∧ ∃ L', plAct (fun a => l.getD a HOp.zero) j L cap = some L' ∧ stA a pp cc = stV (d ||| 1 <<< j) L') ∨ (ok = false ∧ plAct (fun a => l.getD a HOp.zero) j L cap = none)))
              case first =>
                go_region_held3 (fun w' => w'.cell? ⟨xb, 0, none⟩ = some (.slice ao l.length c1) ∧ w'.cell? ⟨xb, 2, none⟩ = some (.int .i64 cap) ∧ w'.cell? ⟨b4, 0, none⟩ = some (.int .u16 d) ∧ w'.cell? ⟨b4, 1, none⟩ = some (.int .i64 (plc L 0)) ∧ w'.cell? ⟨b4, 2, none⟩ = some (.int .i64 (plc L 1)) ∧ w'.cell? ⟨b4, 3, none⟩ = some (.int .i64 (plc L 2)) ∧ w'.cell? ⟨b4, 4, none⟩ = some (.int .i64 (plc L 3)) ∧ w'.cell? ⟨b4, 5, none⟩ = some (.int .i64 (plc L 4)) ∧ w'.cell? ⟨b4, 6, none⟩ = some (.int .i64 (plc L 5)) ∧ w'.cell? ⟨b4, 7, none⟩ = some (.int .i64 (plc L 6)) ∧ w'.cell? ⟨b4, 8, none⟩ = some (.int .i64 (plc L 7)) ∧ w'.cell? ⟨b4, 9, none⟩ = some (.int .i64 (plc L 8)) ∧ w'.cell? ⟨b4, 10, none⟩ = some (.int .i64 (plc L 9)) ∧ w'.cell? ⟨b4, 11, none⟩ = some (.int .i64 (plc L 10)) ∧ w'.cell? ⟨b4, 12, none⟩ = some (.int .i64 (plc L 11)) ∧ w'.cell? ⟨b4, 13, none⟩ = some (.int .i64 L.length))
                  ((refine (KS _ ?_).out; (repeat (first | with_reducible refine Only.drew ?_ | with_reducible refine Only.alloc ?_ _ | with_reducible refine Only.setCell ?_ (.inr (by first | exact hsz | (simp; omega))) _)); (with_reducible (first | exact OQ.out | exact O3.out))))
                  ((first
                    | (go_at_call 36
                       refine (AP _ OQ.out.drew).out.mono ?_; rintro e w3 ⟨v, ok, rfl, o3, ⟨a, pp, cc, rfl⟩, hres⟩
                       have O3 : Hid (Only [] wr w3) := Lib.hid (OQ.out.drew.then0 o3)
                       have RS := Lib.hid hres
                       simp only [stA, stC]
                       clear o3 hres)
                    | (go_at_call 36
                       refine (AP _ OQ.out).out.mono ?_; rintro e w3 ⟨v, ok, rfl, o3, ⟨a, pp, cc, rfl⟩, hres⟩
                       have O3 : Hid (Only [] wr w3) := Lib.hid (OQ.out.then0 o3)
                       have RS := Lib.hid hres
                       simp only [stA, stC]
                       clear o3 hres)
                    | (go_at_call 36
                       refine (AP _ (OQ.out.drew.alloc _)).out.mono ?_; rintro e w3 ⟨v, ok, rfl, o3, ⟨a, pp, cc, rfl⟩, hres⟩
                       have O3 : Hid (Only [] wr w3) := Lib.hid ((OQ.out.drew.alloc _).then0 o3)
                       have RS := Lib.hid hres
                       have B8 := o3.keep (blk_alloc_new _ _) (by simp)
                       have fz : ∀ q, w3.frozen? ⟨wq.heap.size, q, none⟩ = false := fun q => free_blk B8 q
                       have n0 := cell_blk B8 0
                       have n1 := cell_blk B8 1
                       have n2 := cell_blk B8 2
                       have n3 := cell_blk B8 3
                       have n4 := cell_blk B8 4
                       have n5 := cell_blk B8 5
                       have n6 := cell_blk B8 6
                       have n7 := cell_blk B8 7
                       have n8 := cell_blk B8 8
                       have n9 := cell_blk B8 9
                       have n10 := cell_blk B8 10
                       have n11 := cell_blk B8 11
                       have n12 := cell_blk B8 12
                       have n13 := cell_blk B8 13
                       simp at n0 n1 n2 n3 n4 n5 n6 n7 n8 n9 n10 n11 n12 n13
                       have BB8 := Lib.hid B8
                       clear B8
                       simp only [stA, stC]
                       clear o3 hres)
                    | (go_at_call 36
                       refine (AP _ (OQ.out.alloc _)).out.mono ?_; rintro e w3 ⟨v, ok, rfl, o3, ⟨a, pp, cc, rfl⟩, hres⟩
                       have O3 : Hid (Only [] wr w3) := Lib.hid ((OQ.out.alloc _).then0 o3)
                       have RS := Lib.hid hres
                       have B8 := o3.keep (blk_alloc_new _ _) (by simp)
                       have fz : ∀ q, w3.frozen? ⟨wq.heap.size, q, none⟩ = false := fun q => free_blk B8 q
                       have n0 := cell_blk B8 0
                       have n1 := cell_blk B8 1
                       have n2 := cell_blk B8 2
                       have n3 := cell_blk B8 3
                       have n4 := cell_blk B8 4
                       have n5 := cell_blk B8 5
                       have n6 := cell_blk B8 6
                       have n7 := cell_blk B8 7
                       have n8 := cell_blk B8 8
                       have n9 := cell_blk B8 9
                       have n10 := cell_blk B8 10
                       have n11 := cell_blk B8 11
                       have n12 := cell_blk B8 12
                       have n13 := cell_blk B8 13
                       simp at n0 n1 n2 n3 n4 n5 n6 n7 n8 n9 n10 n11 n12 n13
                       have BB8 := Lib.hid B8
                       clear B8
                       simp only [stA, stC]
                       clear o3 hres)))
                all_goals
                  go_wp2_with fail
                  go_meet
                --<F1
                · exact ⟨_, ok, a, pp, cc, rfl, rfl, blk_alloc_new w3 (stO a pp cc), O3.out.alloc _, RS.out⟩
                --F1>
                --<F2
                · refine ⟨_, ok, a, pp, cc, rfl, rfl, ?_, ?_, RS.out⟩
                  · have H0 := blk_setCell (show w3.heap[wq.heap.size]? = some (.cells #[.int .u16 0, .int .i64 0, .int .i64 0, .int .i64 0, .int .i64 0, .int .i64 0, .int .i64 0, .int .i64 0, .int .i64 0, .int .i64 0, .int .i64 0, .int .i64 0, .int .i64 0, .int .i64 0] 83 (0, 0)) from BB8.out) 0 (.int .u16 a)
                    have H1 := blk_setCell H0 1 (.int .i64 (pp 0))
                    have H2 := blk_setCell H1 2 (.int .i64 (pp 1))
                    have H3 := blk_setCell H2 3 (.int .i64 (pp 2))
                    have H4 := blk_setCell H3 4 (.int .i64 (pp 3))
                    have H5 := blk_setCell H4 5 (.int .i64 (pp 4))
                    have H6 := blk_setCell H5 6 (.int .i64 (pp 5))
                    have H7 := blk_setCell H6 7 (.int .i64 (pp 6))
                    have H8 := blk_setCell H7 8 (.int .i64 (pp 7))
                    have H9 := blk_setCell H8 9 (.int .i64 (pp 8))
                    have H10 := blk_setCell H9 10 (.int .i64 (pp 9))
                    have H11 := blk_setCell H10 11 (.int .i64 (pp 10))
                    have H12 := blk_setCell H11 12 (.int .i64 (pp 11))
                    have H13 := blk_setCell H12 13 (.int .i64 cc)
                    simpa [stO, stC] using H13
                  · (repeat (with_reducible refine Only.setCell ?_ (.inr hsz) _)); exact O3.out
                --F2>
              case rest =>
                obtain ⟨b8, ok, a, pp, cc, rfl, rfl, hB8, oX, hRes⟩ := hcut
                have OX := Lib.hid oX
                have B8 := Lib.hid hB8
                have RS := Lib.hid hRes
                have MX := Lib.hid (map_keep MR.out oX)
                have SIX := Lib.hid (SIR.out.keep0 oX)
                clear oX hB8 hRes zq0 zq2 uq0' uq1' uq2' uq3' uq4' uq5' uq6' uq7' uq8' uq9' uq10' uq11' uq12' uq13' hsz hbq hxq
                cases ok with
                | false =>
                  have hnone : Hid (plAct (fun a => l.getD a HOp.zero) j L cap = none) := Lib.hid (by
                    rcases RS.out with ⟨h, _⟩ | ⟨_, h⟩
                    · cases h
                    · exact h)
                  --<E1
                  go_wp2_with fail
                  go_roundw
                  case rel => exact ⟨j + 1, m', D', by omega, by go_num, P.out.then0 OX.out, MX.out, HAR.out.1, MOR.out, fun i hi => step.out i hi (fun h => by obtain ⟨_, _, L', h1, _⟩ := h; rw [hnone.out] at h1; cases h1)⟩
                  case measure => simp [intOf]; omega
                  --E1>
                | true =>
                  obtain ⟨L', hpl, hst⟩ : ∃ L', plAct (fun a => l.getD a HOp.zero) j L cap = some L' ∧ stA a pp cc = stV (d ||| 1 <<< j) L' := by
                    rcases RS.out with ⟨_, h⟩ | ⟨h, _⟩
                    · exact h
                    · cases h
                  have hB9 : wc.heap[b8]? = some (stO (d ||| 1 <<< j : Nat) (plc L') L'.length) := by
                    rw [B8.out]
                    unfold stV stA at hst
                    unfold stO
                    injection hst with h
                    rw [h]
                  have PLM := Lib.hid (plAct_mem hpl)
                  have PL := Lib.hid hpl
                  have LFT : Hid (k = leftU l.length (bitsU (d ||| 1 <<< j))) := Lib.hid (by
                    have h1 := leftU_set (n := l.length) (used := bitsU d) (i := j) (by omega) HB.out
                    have h2 := HL.out
                    rw [bitsU_set]; omega)
                  have D16 : Hid (d ||| 1 <<< j < 65536) := Lib.hid (by
                    have h1 : (1 <<< j : Nat) < 2 ^ 16 := by rw [Nat.one_shiftLeft]; exact Nat.pow_lt_pow_right (by omega) (by omega)
                    exact Nat.or_lt_two_pow (n := 16) HD.out h1)
                  obtain ⟨r, hr⟩ : ∃ r, r = ordr (fun a => l.getD a HOp.zero) l.length cap k (bitsU (d ||| 1 <<< j)) (vals (fun a => l.getD a HOp.zero) L') := ⟨_, rfl⟩
                  have HR := Lib.hid hr
                  have REC : Hid (Calls Tryz.prog 27 #[.pointer (some ⟨xb, 0, none⟩), (.agg #[.int .u16 (d ||| 1 <<< j : Nat), .int .i64 (plc L' 0), .int .i64 (plc L' 1), .int .i64 (plc L' 2), .int .i64 (plc L' 3), .int .i64 (plc L' 4), .int .i64 (plc L' 5), .int .i64 (plc L' 6), .int .i64 (plc L' 7), .int .i64 (plc L' 8), .int .i64 (plc L' 9), .int .i64 (plc L' 10), .int .i64 (plc L' 11), .int .i64 L'.length]), .int .i64 k] wc fun e w' => ∃ (D4 : DataW Unit) (m4 : Nat), e = .returned (.bool r) ∧ Only [mb] wc w' ∧ w'.ownsMap Tryz.prog 83 (plainElem Tryz.prog 4) mb m4 D4 ∧ m4 ≤ m' + bdS k ∧ MemoOK l cap D4) := Lib.hid (by
                    have h := IH.out wc (d ||| 1 <<< j) m' L' D' SIX.out MX.out MOR.out LFT.out D16.out (by have := PLM.out.2; have := HLL.out; omega) (fun q hq => by rcases PLM.out.1 q hq with h | h; exact HQ.out q h; omega) HAR.out.2.2
                    unfold FromPost at h
                    rw [← hr] at h
                    exact h)
                  have e0 := cell_blk (show wc.heap[b8]? = some (.cells _ _ _) from hB9) 0
                  have e1 := cell_blk (show wc.heap[b8]? = some (.cells _ _ _) from hB9) 1
                  have e2 := cell_blk (show wc.heap[b8]? = some (.cells _ _ _) from hB9) 2
                  have e3 := cell_blk (show wc.heap[b8]? = some (.cells _ _ _) from hB9) 3
                  have e4 := cell_blk (show wc.heap[b8]? = some (.cells _ _ _) from hB9) 4
                  have e5 := cell_blk (show wc.heap[b8]? = some (.cells _ _ _) from hB9) 5
                  have e6 := cell_blk (show wc.heap[b8]? = some (.cells _ _ _) from hB9) 6
                  have e7 := cell_blk (show wc.heap[b8]? = some (.cells _ _ _) from hB9) 7
                  have e8 := cell_blk (show wc.heap[b8]? = some (.cells _ _ _) from hB9) 8
                  have e9 := cell_blk (show wc.heap[b8]? = some (.cells _ _ _) from hB9) 9
                  have e10 := cell_blk (show wc.heap[b8]? = some (.cells _ _ _) from hB9) 10
                  have e11 := cell_blk (show wc.heap[b8]? = some (.cells _ _ _) from hB9) 11
                  have e12 := cell_blk (show wc.heap[b8]? = some (.cells _ _ _) from hB9) 12
                  have e13 := cell_blk (show wc.heap[b8]? = some (.cells _ _ _) from hB9) 13
                  simp [stC] at e0 e1 e2 e3 e4 e5 e6 e7 e8 e9 e10 e11 e12 e13
                  --<RT
                  clear hB9 hpl hst hr
                  have hk100 : k < 100 := by have := HLL.out; omega
                  go_wp2_with fail
                  --<RU
                  refine REC.out.mono ?_; rintro e w4 ⟨D4, m4, rfl, o4, hM4, hm4, hMO4⟩
                  have O4 := Lib.hid o4
                  have M4 := Lib.hid hM4
                  have MO4 := Lib.hid hMO4
                  have HM4 := Lib.hid hm4
                  clear o4 hM4 hMO4 hm4
                  cases r with
                  | true =>
                    go_wp2_with fail
                    go_ret
                    refine ⟨D4, m4, ?_, ?_, M4.out, ?_, MO4.out⟩
                    · have h : ordr (fun a => l.getD a HOp.zero) l.length cap (k + 1) (bitsU d) (vals (fun a => l.getD a HOp.zero) L) = true :=
                        (ordr_places hf).2 ⟨j, by omega, HB.out, hfirst.out, L', PL.out, by rw [← bitsU_set]; exact HR.out.symm⟩
                      rw [h]; rfl
                    · exact (((O2.out.mono (by simp)).trans (P.out.then0 OX.out) (fun t ht => .inl ht)).trans O4.out (fun t ht => .inl ht))
                    · have h1 := HM4.out
                      have h2 := HAR.out.2.1
                      have h3 : bdS (k + 1) = 12 * bdS k + 1 := rfl
                      have h4 : (j + 1) * bdS k ≤ 12 * bdS k := Nat.mul_le_mul_right _ (by omega)
                      omega
                  | false =>
                    go_wp2_with fail
                    go_roundw
                    case rel => exact ⟨j + 1, m4, D4, by omega, by go_num, ((P.out.then0 OX.out).trans O4.out (fun t ht => .inl ht)), M4.out, by have h1 := HM4.out; have h2 := HAR.out.2.1; omega, MO4.out, fun i hi => step.out i hi (fun h => by
                      obtain ⟨_, _, L2, h1, h2⟩ := h
                      rw [PL.out] at h1
                      cases h1
                      rw [← bitsU_set, ← HR.out] at h2
                      cases h2)⟩
                    case measure => simp [intOf]; omega
                  --RU>
                  --RT>
              --R0>
        · have hjn : j = l.length := by omega
          subst hjn
          have ORD : Hid (ordr (fun a => l.getD a HOp.zero) l.length cap (k + 1) (bitsU d) (vals (fun a => l.getD a HOp.zero) L) = false) := Lib.hid (by
            cases e : ordr (fun a => l.getD a HOp.zero) l.length cap (k + 1) (bitsU d) (vals (fun a => l.getD a HOp.zero) L) with
            | false => rfl
            | true =>
              obtain ⟨i, hi, h⟩ := (ordr_places hf).1 e
              exact absurd h (NO.out i hi))
          have HMM := Lib.hid hmm
          have HM0 := Lib.hid hm
          have HLN : Hid (L.length ≤ 12) := Lib.hid (by omega)
          have hmx : m' < 9223372036854775807 := by
            have h3 : bdS (k + 1) = 12 * bdS k + 1 := rfl
            have h4 : l.length * bdS k ≤ 12 * bdS k := Nat.mul_le_mul_right _ (by omega)
            omega
          have HMX := Lib.hid hmx
          --<EN
          clear hmx hmm hm hL hd hq
          go_wp2_with fail
          go_still_tail 5, (by kernel_rfl)
          change wpList _ _ _ _ _ wr.drew
          have OD := Lib.hid (P.out.drew)
          have MD : Hid (wr.drew.ownsMap Tryz.prog 83 (plainElem Tryz.prog 4) mb m' D') := Lib.hid MR.out
          go_wp2_with (at_mapUpdate; refine wpList_mapUpdate_own _ rfl _ _ _ 75 rfl 83 4 lawSt Tryz.underlying75 _ mb m' D' rfl MD.out (by unfold maxLen; exact HMX.out) _ _ kl rfl rfl HKL.out _ [] (plainElem_bool Tryz.underlying4 true) ?_)
          intro w5 hM5 hG5
          have M5 := Lib.hid hM5
          have G5 := Lib.hid hG5
          clear hM5 hG5
          go_wp2_with fail
          go_ret
          refine ⟨_, m' + 1, ?_, ?_, M5.out, ?_, memo_put MOR.out MD.out.isMap HLN.out KL.out (by rw [← HL.out]; exact ORD.out)⟩
          · rw [ORD.out]; rfl
          · exact ((O2.out.mono (by simp)).trans OD.out (fun t ht => .inl ht)).grown G5.out (fun k hk => by cases hk; exact .inl (by simp))
          · have h1 := HMM.out
            have h3 : bdS (k + 1) = 12 * bdS k + 1 := rfl
            have h4 : l.length * bdS k ≤ 12 * bdS k := Nat.mul_le_mul_right _ (by omega)
            omega
          --EN>
end Go.Proofs.YtfhkhknnoepfeaaGreat
