/- The reference's text of a list of events. No condition beside those named. -/
import Derived.Test.YtncnepmgmphanaaGreatDoorMg25
import Derived.Test.YtncnepmgmphanaaGreatDoorMg23
import Derived.Deep.DeepCutAuto
import Derived.Lib.AppendStr
import Derived.Laws.BytesArg
import Derived.Laws.IdiomStrings
set_option linter.unusedVariables false
set_option linter.unusedSimpArgs false
set_option linter.unusedSectionVars false
namespace Go.Proofs.YtncnepmgmphanaaGreatDoor
section
open Go.RowKit
set_option maxRecDepth 100000 in
set_option maxHeartbeats 4000000 in
theorem KP (w : World) (v : Value) (l : List cB) (h : EL w v l) (hn : l.length ≤ 9223372036854775807) :
   Calls Tryz.prog 11 #[v] w fun e w' => e = .returned (.tuple #[.string (bs (iY l).1), .int .i64 (iY l).2]) ∧ Only [] w w' := by
 obtain ⟨ao, cap, rfl, hc, hh⟩ := h
 by_cases hbig : 65536 < l.length
 · have e : iY l = ([], 2) := if_pos hbig
   rw [e]
   obtain ⟨n, hnn⟩ : ∃ n, n = l.length := ⟨_, rfl⟩
   rw [← hnn] at hbig hn ⊢
   clear hh hc hnn e
   go_enter Tryz.func11, Tryz.ntmps11
   go_wp2_with fail
   go_ret2
   exact ⟨rfl, Only.refl _ _⟩
 · have e : iY l = if l.all bW then (jr l, 0) else ([], 6) := if_neg hbig
   rw [e]
   have GO := Lib.hid (fun (hv : ∀ x ∈ l, bW x = true) => (if_pos (List.all_eq_true.2 hv) : (if l.all bW then (jr l, (0 : Int)) else ([], 6)) = _))
   have NO := Lib.hid (fun (x : cB) (hx : x ∈ l) (hv : bW x = false) => (if_neg (fun hall => by have := List.all_eq_true.1 hall x hx; rw [hv] at this; cases this) : (if l.all bW then (jr l, (0 : Int)) else ([], 6)) = _))
   obtain ⟨R, hR⟩ : ∃ R, R = (if l.all bW then (jr l, (0 : Int)) else ([], 6)) := ⟨_, rfl⟩
   rw [← hR] at GO NO ⊢
   obtain ⟨n, hnn⟩ : ∃ n, n = l.length := ⟨_, rfl⟩
   have HN := Lib.hid hnn
   have HC := Lib.hid hh
   have hn2 : n ≤ 65536 := by omega
   rw [← hnn] at hc ⊢
   clear hbig hn hR hnn hh e
   go_enter Tryz.func11, Tryz.ntmps11
   go_wp2_with fail
   go_loopw [4, 5] (fun s r wr => ∃ k : Nat, r = .int .i64 k ∧ k ≤ n ∧ (∀ x ∈ l.take k, bW x = true) ∧ s = .string (bs (jr (l.take k))) ∧ Only [] w wr) (fun _ r _ => n - (intOf r).toNat)
   case atStart => exact ⟨0, rfl, by omega, by simp, rfl, Only.refl _ _⟩
   case round =>
     obtain ⟨k, rfl, hk, hv, rfl, ho⟩ := hrel
     obtain ⟨w3, hw3⟩ : ∃ w3, w3 = wr := ⟨_, rfl⟩
     subst hw3
     have HV := Lib.hid hv
     have OW := Lib.hid ho
     clear hv ho
     by_cases hkn : k < n
     · obtain ⟨b, off, hao, hg⟩ := HC.out (by rw [← HN.out]; omega)
       have hx := (hg k (by rw [← HN.out]; exact hkn)).keep OW.out
       obtain ⟨x, sN⟩ : ∃ x, x = l.getD k cB.zero := ⟨_, rfl⟩
       have HM : Hid (x ∈ l) := Lib.hid (by
         rw [sN, List.getD_eq_getElem?_getD, List.getElem?_eq_getElem (by rw [← HN.out]; exact hkn)]
         exact List.getElem_mem _)
       have HT := Lib.hid (show l.take (k + 1) = l.take k ++ [x] from by rw [sN]; exact vB l _ k (by rw [← HN.out]; exact hkn))
       rw [← sN] at hx
       have HX0 := Lib.hid hx
       obtain ⟨c0, c1, c2, c3, c4⟩ := hx
       rw [hao]
       have hk1 : (0 : Int) ≤ (k : Int) := by omega
       have hk2 : (k : Int) < (n : Int) := by omega
       have VA := fun w' => NY w' x
       unfold oU at VA
       have yS := Lib.hid VA
       obtain ⟨S, hS⟩ : ∃ S, S = bs (jr (l.take k)) := ⟨_, rfl⟩
       have hSz : S.size ≤ 2000000 := by
         rw [hS]
         show (jr (l.take k)).toArray.size ≤ _
         have h1 := BO HV.out
         have h3 := List.length_take_le k l
         simp only [List.size_toArray]
         omega
       have HSE := Lib.hid hS
       rw [← hS]
       clear hg sN hao VA hS
       cases qf : bW x with
       | false =>
         rw [qf] at yS
         have HX := Lib.hid qf
         clear qf
         go_wp2_with fail
         refine (yS.out _).mono ?_; rintro e w4 ⟨rfl, o4⟩
         go_wp2_with fail
         go_ret2
         exact ⟨by rw [NO.out x HM.out HX.out]; rfl, OW.out.bF o4⟩
       | true =>
         rw [qf] at yS
         have HX := Lib.hid qf
         have LN := Lib.hid (fun w' => Bt w' x qf)
         unfold oU at LN
         obtain ⟨I, hI⟩ : ∃ I, I = bs (jd x) := ⟨_, rfl⟩
         have zI : I.size ≤ 23 := by
           rw [hI]
           show (jd x).toArray.size ≤ 23
           have := xm qf
           simpa using this
         have HI := Lib.hid hI
         rw [← hI] at LN
         clear qf hI
         go_wp2_with fail
         refine (yS.out _).mono ?_; rintro e w4 ⟨rfl, o4⟩
         have O4 := Lib.hid (OW.out.bF o4)
         have hx4 := HX0.out.keep o4
         clear c0 c1 c2 c3 c4
         obtain ⟨c0, c1, c2, c3, c4⟩ := hx4
         clear o4
         go_wp2_with fail
         refine (LN.out _).mono ?_; rintro e w5 ⟨rfl, o5⟩
         have O5 := Lib.hid (O4.out.bF o5)
         clear o5 c0 c1 c2 c3 c4
         go_wp2_with fail
         go_roundw
         case rel => exact ⟨k + 1, by first | rfl | (congr 1; omega), by omega, by
           rw [HT.out]
           intro y hy
           rcases List.mem_append.1 hy with h | h
           · exact HV.out y h
           · rw [List.mem_singleton.1 h]; exact HX.out, by
           rw [HT.out, JY, ← abF, ← HSE.out, ← HI.out], O5.out⟩
         case measure => simp [intOf]; omega
     · have hk2 : ¬ (k : Int) < (n : Int) := by omega
       have hkn' : k = n := by omega
       subst hkn'
       have hl : l.take k = l := by rw [HN.out]; exact List.take_length
       rw [hl]
       have HVl := Lib.hid (show ∀ x ∈ l, bW x = true from by have := HV.out; rwa [hl] at this)
       clear hl
       go_wp2_with fail
       go_ret2
       exact ⟨by rw [GO.out HVl.out]; rfl, OW.out⟩
end
section
open Go.RowKit
theorem BytesAt.only {w w' : World} {ao : Option Addr} {n : Nat} (h : BytesAt w ao n) (o : Only [] w w') : BytesAt w' ao n := fun i hi => by
 obtain ⟨b, off, rfl, z, h1, h2⟩ := h i hi
 exact ⟨b, off, rfl, z, o.keepCell h1 (by simp), h2⟩
theorem Zn (w : World) (ao sa : Option Addr) (nb cb ns cs : Nat) (hb : BytesAt w ao nb) (hs : BytesAt w sa ns) (hnb : nb ≤ 100000) (hns : ns ≤ 100000) :
   Calls Tryz.prog 8 #[.slice ao nb cb, .slice sa ns cs] w fun e w' => ∃ v l, e = .returned v ∧ EL w' v l ∧ l.length ≤ 200000 ∧ Only [] w w' := by
 refine (Rl w ao sa nb cb ns cs hb hs hnb hns).mono ?_
 rintro e w' ⟨v, N', rfl, hN, hw, hc, hE⟩
 obtain ⟨l, hl, hn⟩ := ae5 hw hc
 exact ⟨v, l, rfl, hl, by omega, adD hE⟩
end
section
open Go.RowKit
def agp (w : World) (b off : Nat) (x : Int × cB) : Prop := w.cell? ⟨b, off, none⟩ = some (.int .i64 x.1) ∧ w.cell? ⟨b, off + 1, none⟩ = some (.int .i64 x.2.kind) ∧ w.cell? ⟨b, off + 2, none⟩ = some (.int .i64 x.2.worker) ∧ w.cell? ⟨b, off + 3, none⟩ = some (.int .i64 x.2.task) ∧ w.cell? ⟨b, off + 4, none⟩ = some (.int .i64 x.2.other) ∧ w.cell? ⟨b, off + 5, none⟩ = some (.int .i64 x.2.level)
def STL (w : World) (v : Value) (l : List (Int × cB)) : Prop :=
 ∃ ao cap, v = .slice ao l.length cap ∧ l.length ≤ cap ∧ (0 < l.length → ∃ b off, ao = some ⟨b, off, none⟩ ∧ ∀ i, i < l.length → agp w b (off + i * 6) (l.getD i (0, cB.zero)))
set_option maxRecDepth 100000 in
set_option maxHeartbeats 4000000 in
theorem RU (w : World) (v1 v2 : Value) (l : List cB) (h1 : EL w v1 l) (h2 : EL w v2 l) (hn : l.length ≤ 9223372036854775807) :
   Calls Tryz.prog 16 #[v1, v2] w fun e w' => e = .returned (.bool true) ∧ Only [] w w' := by
 obtain ⟨Tu, ahJ, rfl, hc1, hh1⟩ := h1
 obtain ⟨Qz, cap2, rfl, hc2, hh2⟩ := h2
 obtain ⟨n, hnn⟩ : ∃ n, n = l.length := ⟨_, rfl⟩
 have HN := Lib.hid hnn
 have HC := Lib.hid (And.intro hh1 hh2)
 rw [← hnn] at hn hc1 hc2 ⊢
 clear hh1 hh2 hnn
 go_enter Tryz.func16, Tryz.ntmps16
 go_wp2_with fail
 go_loopw [5] (fun r wr => ∃ k : Nat, r = .int .i64 k ∧ k ≤ n ∧ Only [] w wr) (fun r _ => n - (intOf r).toNat)
 case atStart => exact ⟨0, rfl, by omega, Only.refl _ _⟩
 case round =>
   obtain ⟨k, rfl, hk, ho⟩ := hrel
   have OW := Lib.hid ho
   clear ho
   by_cases hkn : k < n
   · obtain ⟨b1, ana, rfl, hg1⟩ := HC.out.1 (by rw [← HN.out]; omega)
     obtain ⟨b2, ank, rfl, hg2⟩ := HC.out.2 (by rw [← HN.out]; omega)
     obtain ⟨c0, c1, c2, c3, c4⟩ := (hg1 k (by rw [← HN.out]; exact hkn)).keep OW.out
     obtain ⟨d0, d1, d2, d3, d4⟩ := (hg2 k (by rw [← HN.out]; exact hkn)).keep OW.out
     obtain ⟨x, sN⟩ : ∃ x, x = l.getD k cB.zero := ⟨_, rfl⟩
     rw [← sN] at c0 c1 c2 c3 c4 d0 d1 d2 d3 d4
     obtain ⟨K, a, tk, ot, lv⟩ := x
     simp only at c0 c1 c2 c3 c4 d0 d1 d2 d3 d4
     have hk1 : (0 : Int) ≤ (k : Int) := by omega
     have hk2 : (k : Int) < (n : Int) := by omega
     clear hg1 hg2 sN
     go_wp2_with fail
     go_region
     go_wp2_with fail
     go_roundw
     case rel => exact ⟨k + 1, by first | rfl | (congr 1; omega), by omega, OW.out.drew⟩
     case measure => simp [intOf]; omega
   · have hk2 : ¬ (k : Int) < (n : Int) := by omega
     go_wp2_with fail
     go_ret
     exact ⟨rfl, OW.out⟩
end
section
open Go.RowKit
def kN (w : World) (g off : Nat) (n : Nat) : Prop := ∀ i, i < n → ∃ b : UInt8, w.cell? ⟨g, off + i, none⟩ = some (.int .u8 b.toNat)
theorem kN.keep {w w' : World} {g off n : Nat} (h : kN w g off n) (o : Only [] w w') : kN w' g off n := fun i hi => by
 obtain ⟨b, hb⟩ := h i hi
 exact ⟨b, o.keepCell hb (by simp)⟩
def RB (w : World) (v : Value) (n : Nat) : Prop := ∃ g off cap, v = .slice (some ⟨g, off, none⟩) n cap ∧ n ≤ cap ∧ kN w g off n
theorem kN.list {w : World} {g off : Nat} : ∀ (n : Nat), kN w g off n → ∃ l : List UInt8, l.length = n ∧ ∀ j u, (l.map fun b => Value.int .u8 b.toNat)[j]? = some u → w.cell? ((⟨g, off, none⟩ : Addr).add j) = some u := by
 intro n
 induction n with
 | zero => intro _; exact ⟨[], rfl, fun j u hj => by simp at hj⟩
 | succ n ih =>
   intro h
   obtain ⟨l, hl, hc⟩ := ih fun i hi => h i (by omega)
   obtain ⟨b, hb⟩ := h n (by omega)
   refine ⟨l ++ [b], by simp [hl], fun j u hj => ?_⟩
   rw [List.map_append, List.getElem?_append] at hj
   split at hj
   · exact hc j u hj
   · rename_i hge
     rw [List.length_map, hl] at hge hj
     have hjn : j = n := by
       have := (List.getElem?_eq_some_iff.1 hj).1
       simp at this
       omega
     subst hjn
     simp at hj
     subst hj
     rw [Go.WideShapes.add_plain]
     exact hb
theorem Gt : (Tryz.prog.info? 5).map (fun i => (i.zero, i.size, i.bytes)) = some (some (.int .u8 0), 1, 1) := by kernel_rfl
theorem tQ (l : List UInt8) : ∀ u ∈ l.map (fun b => Value.int .u8 b.toNat), u.oneCell' = true := fun u hu => by
 obtain ⟨b, -, rfl⟩ := List.mem_map.1 hu
 rfl
theorem adK {ty : TypeId} {w : World} {g1 o1 k g2 o2 m c : Nat} (h1 : kN w g1 o1 k) (h2 : kN w g2 o2 m) (hk : k + m ≤ 100000000) :
   ∃ v' w', (Builtin.append_ #[23, 23] ty #[.slice (some ⟨g1, o1, none⟩) k k, .slice (some ⟨g2, o2, none⟩) m c]).run Tryz.prog w = .ok v' w' ∧ RB w' v' (k + m) ∧ Only [] w w' := by
 obtain ⟨i, hi, hz, hs, hb⟩ := info_parts Gt
 obtain ⟨l1, e1, c1⟩ := h1.list
 obtain ⟨l2, e2, c2⟩ := h2.list
 by_cases hm : m = 0
 · subst hm
   refine ⟨.slice (some ⟨g1, o1, none⟩) k k, w, ?_, ⟨g1, o1, k, rfl, Nat.le_refl _, h1⟩, Only.refl _ _⟩
   simp [Builtin.append_, run_underlying Tryz.underlying23, sizeOf, typeInfo, hi, Builtin.lenOf, Builtin.firstCells, storeCells, loadCells, loadCellsFrom]
 · have hr := run_append_grow (P := Tryz.prog) w 23 ty 5 i _ Tryz.underlying23 hi hz ⟨g1, o1, none⟩ k k (l1.map fun b => Value.int .u8 b.toNat) (by rw [hs, List.length_map, e1, Nat.mul_one]) c1 ⟨g2, o2, none⟩ m c (l2.map fun b => Value.int .u8 b.toNat) (by rw [hs, List.length_map, e2, Nat.mul_one]) c2 (by omega) (by omega) (growslice_fits (by omega) (by rw [hb]; omega))
   have hgc := grownCap_ge w (k + m) k 5
   refine ⟨_, _, hr, ⟨_, 0, _, rfl, hgc, fun j hj => ?_⟩, (Only.refl _ _).drew.alloc _⟩
   have hbk := blk_alloc_new w.drew (.cells ((l1.map fun b => Value.int .u8 b.toNat).toArray ++ (l2.map fun b => Value.int .u8 b.toNat).toArray ++ Builtin.zeroCells (Value.int .u8 0).cells (grownCap w (k + m) k 5 - (k + m))) 5)
   obtain ⟨b, hb⟩ : ∃ b, (l1 ++ l2)[j]? = some b := ⟨_, List.getElem?_eq_getElem (by rw [List.length_append]; omega)⟩
   refine ⟨b, ?_⟩
   rw [Nat.zero_add]
   refine (aa hbk j).trans ?_
   rw [Array.getElem?_append_left (by simp; omega), ← Array.getElem?_toList]
   simp only [Array.toList_append]
   rw [← List.map_append, List.getElem?_map, hb]
   rfl
theorem Ty {op : Oper} {a : Act} {K : Act → World → Prop} {Q : Exit → Act → World → Prop} {s x : Operand} {w : World} {g1 o1 k g2 o2 m c : Nat} (ho : op.op = .call { callee := .builtin .append, args := #[s, x], argTypes := #[23, 23] })
   (hs : a.eval s = .slice (some ⟨g1, o1, none⟩) k k) (hx : a.eval x = .slice (some ⟨g2, o2, none⟩) m c) (h1 : kN w g1 o1 k) (h2 : kN w g2 o2 m) (hk : k + m ≤ 100000000)
   (h : ∀ v' w', RB w' v' (k + m) → Only [] w w' → K (a.put op.dst v') w') : op.wp Tryz.prog a w K Q := by
 obtain ⟨v', w', hr, r1, r2⟩ := adK (ty := op.type) (c := c) h1 h2 hk
 unfold Oper.wp execOp
 simp only [ho, resolve, invoke, builtin, Sem.run_bind, Sem.run_pure, Result.andThen_ok, List.map_toArray, List.map_cons, List.map_nil, hs, hx, hr]
 exact h v' w' r1 r2
theorem Uk {op : Oper} {a : Act} {K : Act → World → Prop} {Q : Exit → Act → World → Prop} {sl x : Operand} {w : World} {base n : Nat} {v : Value} {xs : List Value} {s : ByteArray} (ho : op.op = .call { callee := .builtin .append, args := #[sl, x], argTypes := #[23, 9] })
   (hs : a.eval sl = v) (hx : a.eval x = .string s) (hown : w.ownsRow base 5 1 v n xs) (hn : n + s.size ≤ 100000000) (hbase : base ≤ w.heap.size)
   (h : ∀ v' w', w'.ownsRow base 5 1 v' (n + s.size) (xs ++ Lib.strCells s) → w.grownBy w' v.ownBlock → (v' = .slice none 0 0 → v = .slice none 0 0) → K (a.put op.dst v') w') : op.wp Tryz.prog a w K Q := by
 obtain ⟨i, hi, hz, hsz, hb⟩ := info_parts Gt
 obtain ⟨v', w', hr, h2, h3, h4⟩ := Lib.run_append_own_string (P := Tryz.prog) w base 23 9 op.type 5 i Tryz.underlying23 Tryz.underlying9 hi hz hsz hb v n xs hown s (by unfold maxLen; omega) (by omega) hbase
 unfold Oper.wp execOp
 simp only [ho, resolve, invoke, builtin, Sem.run_bind, Sem.run_pure, Result.andThen_ok, List.map_toArray, List.map_cons, List.map_nil, hs, hx, hr]
 exact h v' w' h2 h3 (fun e => (h4.1 e).1)
theorem agr {w : World} {v : Value} {n : Nat} (h : RB w v n) : ∃ s : ByteArray, s.size = n ∧ (convert 23 9 v).run Tryz.prog w = .ok (.string s) w := by
 obtain ⟨g, off, cap, rfl, hc, hb⟩ := h
 obtain ⟨l, e, hl⟩ := hb.list
 refine ⟨_, ?_, run_convert_bytes_arg (P := Tryz.prog) w 23 5 Tryz.underlying23 Tryz.underlying5 g off n cap (l.map fun b => (b.toNat : Int)) (by simp [e]) (fun i hi => ?_) 9 Tryz.underlying9⟩
 · rw [strOfNums_size]; simp [e]
 · have := hl i (.int .u8 ((l.map fun b => (b.toNat : Int)).getD i 0)) (by
     rw [List.getElem?_map, List.getElem?_eq_getElem (by omega)]
     simp [List.getD_eq_getElem?_getD, List.getElem?_eq_getElem (show i < l.length by omega)])
   rw [Go.WideShapes.add_plain] at this
   exact this
end
end Go.Proofs.YtncnepmgmphanaaGreatDoor
