/- The text of a list of events, walked. No condition beside the library's variables. -/
import Derived.Test.YtncnepmgmphanaaGreatDoorMg22
import Derived.Test.YtncnepmgmphanaaGreatDoorMg01
import Derived.Test.YtncnepmgmphanaaGreatDoorMg05
import Derived.Deep.QuietTactic
import Derived.BigQuiet
import Derived.Test.YtncnepmgmphanaaGreatDoorMg02
set_option linter.unusedVariables false
set_option linter.unusedSimpArgs false
set_option linter.unusedSectionVars false
namespace Go.Proofs.YtncnepmgmphanaaGreatDoor
section
open Go.RowKit
def AV (w : World) (b off : Nat) (e : cB) : Prop :=
 w.cell? ⟨b, off, none⟩ = some (.int .i64 e.kind) ∧ w.cell? ⟨b, off + 1, none⟩ = some (.int .i64 e.worker) ∧ w.cell? ⟨b, off + 2, none⟩ = some (.int .i64 e.task) ∧ w.cell? ⟨b, off + 3, none⟩ = some (.int .i64 e.other) ∧ w.cell? ⟨b, off + 4, none⟩ = some (.int .i64 e.level)
theorem AV.keep {w w' : World} {b off : Nat} {e : cB} (h : AV w b off e) (o : Only [] w w') : AV w' b off e := by
 obtain ⟨h0, h1, h2, h3, h4⟩ := h
 exact ⟨o.keepCell h0 (by simp), o.keepCell h1 (by simp), o.keepCell h2 (by simp), o.keepCell h3 (by simp), o.keepCell h4 (by simp)⟩
def cB.zero : cB := ⟨0, 0, 0, 0, 0⟩
def EL (w : World) (v : Value) (l : List cB) : Prop :=
 ∃ ao cap, v = .slice ao l.length cap ∧ l.length ≤ cap ∧ (0 < l.length → ∃ b off, ao = some ⟨b, off, none⟩ ∧ ∀ i, i < l.length → AV w b (off + i * 5) (l.getD i cB.zero))
theorem EL.keep {w w' : World} {v : Value} {l : List cB} (h : EL w v l) (o : Only [] w w') : EL w' v l := by
 obtain ⟨ao, cap, e, hc, hh⟩ := h
 refine ⟨ao, cap, e, hc, fun hp => ?_⟩
 obtain ⟨b, off, e2, hg⟩ := hh hp
 exact ⟨b, off, e2, fun i hi => (hg i hi).keep o⟩
def jr (l : List cB) : List UInt8 := l.flatMap jd
def iY (l : List cB) : List UInt8 × Int := if 65536 < l.length then ([], 2) else if l.all bW then (jr l, 0) else ([], 6)
theorem XZ (e : cB) (f : iN) (hf : f.word.length ≤ 6) (h : ∀ k, k < 4 → 0 ≤ gB e k ∧ gB e k ≤ 256) : ∀ k, k ≤ 4 → (jG e f k).length ≤ 6 + 4 * k := by
 intro k
 induction k with
 | zero => intro _; exact hf
 | succ k ih =>
   intro hk
   have := ih (by omega)
   have hx := h k (by omega)
   have hl := qi hx.1 hx.2
   simp only [jG, List.length_append, MX]
   split
   · simp only [List.length_cons]; omega
   · simp; omega
theorem xm {e : cB} (h : bW e = true) : (jd e).length ≤ 23 := by
 have := XZ e (aI (e.kind - 1).toNat) (Cj _) (j3 h).2.2 4 (by omega)
 simp only [jd, List.length_append, List.length_cons, List.length_nil]; omega
theorem BO {l : List cB} (h : ∀ e ∈ l, bW e = true) : (jr l).length ≤ 23 * l.length := by
 induction l with
 | nil => simp [jr]
 | cons a l ih =>
   have h1 := xm (h a (by simp))
   have h2 := ih (fun e he => h e (by simp [he]))
   simp only [jr, List.flatMap_cons, List.length_append, List.length_cons] at h2 ⊢
   omega
theorem JY (l : List cB) (e : cB) : jr (l ++ [e]) = jr l ++ jd e := by simp [jr]
theorem vB {α : Type} (l : List α) (d : α) (k : Nat) (h : k < l.length) : l.take (k + 1) = l.take k ++ [l.getD k d] := by
 rw [List.take_succ_eq_append_getElem h, List.getD_eq_getElem?_getD, List.getElem?_eq_getElem h]; rfl
theorem Ip {T e : TypeId} {B b : Nat} {bs : List Value} {w w' : World} (h : Lib.IsBuilder T e B b bs w) (o : Only [] w w') : Lib.IsBuilder T e B b bs w' := by
 have g : w.grownBy w' none := ⟨o.os, o.tape, o.output, o.size, fun k hk _ => o.block k hk (by simp)⟩
 have aux : ∀ p, Lib.BuilderAt T e B b p bs w → Lib.BuilderAt T e B b p bs w' := by
   rintro p ⟨hB, v, hb, hown, hne⟩
   refine ⟨hB, v, o.keep hb (by simp), hown.kept g ?_, hne⟩
   cases hv : v.ownBlock with
   | none => exact .inl rfl
   | some k => exact .inr (by simp)
 rcases h with h | h
 · exact .inl (aux _ h)
 · exact .inr (aux _ h)
theorem tO {w w1 w2 : World} {B : Nat} (h : Only [] w w1) (hB : w.heap.size ≤ B) (hb : Below B w1 w2) : Only [] w w2 :=
 ⟨hb.os.trans h.os, hb.tape.trans h.tape, hb.output.trans h.output, Nat.le_trans h.size hb.size, fun k hk hn => by rw [hb.block k (by omega)]; exact h.block k hk hn⟩
set_option maxRecDepth 100000 in
set_option maxHeartbeats 4000000 in
theorem VU (w : World) (hL : jc w) (v : Value) (l : List cB) (h : EL w v l) (hn : l.length ≤ 9223372036854775807) :
   Calls Tryz.prog 10 #[v] w fun e w' => e = .returned (.tuple #[.string ⟨(iY l).1.toArray⟩, .int .i64 (iY l).2]) ∧ Only [] w w' := by
 have HE := Lib.hid h
 obtain ⟨ao, cap, rfl, hc, hh⟩ := h
 by_cases hbig : 65536 < l.length
 · have e : iY l = ([], 2) := if_pos hbig
   rw [e]
   obtain ⟨n, hnn⟩ : ∃ n, n = l.length := ⟨_, rfl⟩
   rw [← hnn] at hbig hn ⊢
   clear hh hc hnn e
   go_enter Tryz.func10, Tryz.ntmps10
   go_wp2_with fail
   go_ret2
   exact ⟨rfl, Only.refl _ _⟩
 · have e : iY l = if l.all bW then (jr l, 0) else ([], 6) := if_neg hbig
   rw [e]
   have GO := Lib.hid (fun (hv : ∀ x ∈ l, bW x = true) => (if_pos (List.all_eq_true.2 hv) : (if l.all bW then (jr l, (0 : Int)) else ([], 6)) = _))
   have NO := Lib.hid (fun (x : cB) (hx : x ∈ l) (hv : bW x = false) => (if_neg (fun hall => by have := List.all_eq_true.1 hall x hx; rw [hv] at this; cases this) : (if l.all bW then (jr l, (0 : Int)) else ([], 6)) = _))
   obtain ⟨R, hR⟩ : ∃ R, R = (if l.all bW then (jr l, (0 : Int)) else ([], 6)) := ⟨_, rfl⟩
   rw [← hR] at GO NO ⊢
   obtain ⟨n, hnn⟩ : ∃ n, n = l.length := ⟨_, rfl⟩
   have HN := Lib.hid hnn
   have HC := Lib.hid hh
   have HL := Lib.hid hL
   have hn2 : n ≤ 65536 := by omega
   rw [← hnn] at hc ⊢
   obtain ⟨bb, hbb⟩ : ∃ bb, bb = w.heap.size := ⟨_, rfl⟩
   have qg := Lib.hid hbb
   obtain ⟨W0, hW0⟩ : ∃ W0, W0 = w.alloc (.cells #[.pointer none, .slice none 0 0] 74) := ⟨_, rfl⟩
   have HW0 := Lib.hid hW0
   have IB0 : Hid (Lib.IsBuilder 74 5 bb bb (Lib.byteCells (jr (l.take 0))) W0) := Lib.hid (.inl ⟨Nat.le_refl _, .slice none 0 0, by rw [hW0, hbb]; exact blk_alloc_new w _, World.ownsRow_nil _ _ _ _, by simp [Value.ownBlock]⟩)
   have O0 : Hid (Only [] w W0) := Lib.hid (by rw [hW0]; exact (Only.refl _ _).alloc _)
   have hbs : bb < W0.heap.size := by rw [hW0, hbb]; simp
   clear hbig hn hR hnn hh hL e hbb hW0
   go_enter Tryz.func10, Tryz.ntmps10
   go_wp2_with fail
   rw [← qg.out, ← HW0.out]
   go_loopw [6, 12] (fun _ r wr => ∃ k : Nat, r = .int .i64 k ∧ k ≤ n ∧ (∀ x ∈ l.take k, bW x = true) ∧ Lib.IsBuilder 74 5 bb bb (Lib.byteCells (jr (l.take k))) wr ∧ Only [] w wr) (fun _ r _ => n - (intOf r).toNat)
   case atStart => exact ⟨0, rfl, by omega, by simp, IB0.out, O0.out⟩
   case round =>
     obtain ⟨k, rfl, hk, hv, hib, ho⟩ := hrel
     obtain ⟨w3, hw3⟩ : ∃ w3, w3 = wr := ⟨_, rfl⟩
     subst hw3
     have HV := Lib.hid hv
     have HIB := Lib.hid hib
     have OW := Lib.hid ho
     clear hv hib ho
     by_cases hkn : k < n
     · obtain ⟨b, off, hao, hg⟩ := HC.out (by rw [← HN.out]; omega)
       have hx := (hg k (by rw [← HN.out]; exact hkn)).keep OW.out
       obtain ⟨x, sN⟩ : ∃ x, x = l.getD k cB.zero := ⟨_, rfl⟩
       have HM : Hid (x ∈ l) := Lib.hid (by
         rw [sN, List.getD_eq_getElem?_getD, List.getElem?_eq_getElem (by rw [← HN.out]; exact hkn)]
         exact List.getElem_mem _)
       have HT := Lib.hid (show l.take (k + 1) = l.take k ++ [x] from by rw [sN]; exact vB l _ k (by rw [← HN.out]; exact hkn))
       rw [← sN] at hx
       obtain ⟨c0, c1, c2, c3, c4⟩ := hx
       rw [hao]
       have hk1 : (0 : Int) ≤ (k : Int) := by omega
       have hk2 : (k : Int) < (n : Int) := by omega
       have VA := fun w' => Jt w' x
       unfold oU at VA
       have yS := Lib.hid VA
       have hbl := lt_of_cell c0
       clear hg sN hao VA
       cases qf : bW x with
       | false =>
         rw [qf] at yS
         have HX := Lib.hid qf
         clear qf
         go_wp2_with fail
         refine (yS.out _).mono ?_; rintro e w4 ⟨rfl, o4⟩
         go_wp2_with fail
         go_ret2
         exact ⟨by rw [NO.out x HM.out HX.out]; rfl, (OW.out.alloc _).bF o4⟩
       | true =>
         rw [qf] at yS
         have HX := Lib.hid qf
         clear qf
         go_wp2_with fail
         refine (yS.out _).mono ?_; rintro e w4 ⟨rfl, o4⟩
         obtain ⟨eb, NT⟩ : ∃ eb, eb = w3.heap.size := ⟨_, rfl⟩
         rw [← NT]
         have hE := o4.keep (blk_alloc_new w3 (.cells #[.int .i64 x.kind, .int .i64 x.worker, .int .i64 x.task, .int .i64 x.other, .int .i64 x.level] 27)) (by simp)
         rw [← NT] at hE
         have d0 := aa hE 0
         have d1 := aa hE 1
         have d2 := aa hE 2
         have d3 := aa hE 3
         have d4 := aa hE 4
         simp at d0 d1 d2 d3 d4
         have J9 := Lib.hid (((Only.refl [] w3).alloc (.cells #[.int .i64 x.kind, .int .i64 x.worker, .int .i64 x.task, .int .i64 x.other, .int .i64 x.level] 27)).bF o4)
         have LN := aeg w4 (HL.out.jJ (OW.out.bF J9.out)) x HX.out
         unfold oU at LN
         have LNH := Lib.hid LN
         clear NT hE o4 LN c0 c1 c2 c3 c4 hbl
         go_wp2_with fail
         refine LNH.out.mono ?_; rintro e w5 ⟨rfl, o5⟩
         have O35 := Lib.hid (J9.out.bF o5)
         have WS := Lib.hid (F7 bb bb _ ⟨(jd x).toArray⟩ w5 (Ip HIB.out O35.out) (by
           rw [Lib.byteCells_length, gG]
           have h1 := BO HV.out
           have h2 := xm HX.out
           have h3 := List.length_take_le k l
           omega) (by have := O35.out.size; have := OW.out.size; have := qg.out; omega))
         clear o5 d0 d1 d2 d3 d4
         go_wp2_with fail
         refine WS.out.mono ?_; rintro e w6 ⟨rfl, hb6, b6⟩
         have HB6 := Lib.hid hb6
         have O6 : Hid (Only [] w w6) := Lib.hid (tO (OW.out.bF O35.out) (by rw [qg.out]; exact Nat.le_refl _) b6)
         clear hb6 b6
         go_wp2_with fail
         go_roundw
         case rel => exact ⟨k + 1, by go_num, by omega, fun y hy => by
           rw [HT.out] at hy
           rcases List.mem_append.1 hy with h1 | h1
           · exact HV.out y h1
           · rw [List.mem_singleton.1 h1]; exact HX.out, .inr (by rw [HT.out, JY, Lib.byteCells_append]; exact HB6.out), O6.out⟩
         case measure => simp [intOf]; omega
     · obtain rfl : k = n := by omega
       have ht : l.take k = l := by rw [HN.out]; exact List.take_length
       have BS := Tryz.Builder_String_any bb bb (jr (l.take k)) w3 HIB.out (by have := OW.out.size; have := qg.out; omega)
       rw [ht] at BS
       have HV2 := Lib.hid (show ∀ x ∈ l, bW x = true from by have := HV.out; rw [ht] at this; exact this)
       have BSH := Lib.hid BS
       clear ht BS
       go_wp2_with fail
       refine BSH.out.mono ?_; rintro e w4 ⟨rfl, b4⟩
       have O4 : Hid (Only [] w w4) := Lib.hid (tO OW.out (by rw [qg.out]; exact Nat.le_refl _) b4)
       clear b4
       go_wp2_with fail
       go_ret2
       exact ⟨by rw [GO.out HV2.out]; rfl, O4.out⟩
end
section
open Go.RowKit
variable {B N : Nat} {w w' : World} {v : Value}
theorem adD (g : Eff (fun k _ _ => w.heap.size ≤ k) w w') : Only [] w w' :=
 ⟨g.os, g.tape, g.output, g.size, fun k hk _ => by
   have h : w.heap[k]? = some w.heap[k] := Array.getElem?_eq_getElem hk
   rw [g.blk h fun _ _ hx => by omega, h]⟩
def AR (v : Option Value) : Int := match v with
 | some (.int .i64 z) => z
 | _ => 0
theorem akX : kd.sig 27 = some yQ := by kernel_rfl
theorem ae5 (hw : WT kd.sig B N w) (h : aU w B N (.sl 27 5) v) : ∃ l, EL w v l ∧ l.length ≤ N := by
 obtain ⟨n, xs, hn, hl, ⟨rfl, e⟩ | ⟨b, cap, cur, rfl, h1, h2, h3, h4, h5, h6⟩⟩ := h
 · exact ⟨[], ⟨none, 0, rfl, Nat.le_refl _, fun h => absurd h (Nat.lt_irrefl _)⟩, Nat.zero_le _⟩
 · have hl : ((List.range n).map fun i => (⟨AR cur[i * 5]?, AR cur[i * 5 + 1]?, AR cur[i * 5 + 2]?, AR cur[i * 5 + 3]?, AR cur[i * 5 + 4]?⟩ : cB)).length = n := by simp
   refine ⟨_, ⟨_, cap, by rw [hl], by rw [hl]; exact h3, fun _ => ⟨b, 0, rfl, fun i hi => ?_⟩⟩, by rw [hl]; exact hn⟩
   rw [hl] at hi
   have hc : ∀ j, j < 5 → w.cell? ⟨b, i * 5 + j, none⟩ = some (.int .i64 (AR cur[i * 5 + j]?)) := fun j hj => by
     have h5i : i * 5 + j < cur.size := by
       have : (i + 1) * 5 ≤ cap * 5 := Nat.mul_le_mul_right _ (by omega)
       omega
     obtain ⟨x, e, o⟩ := bZ hw akX h1 h2 (i := i * 5 + j) (j := j) (ck := .int .i64) h5i (by show (i * 5 + j) % 5 = j; omega) (by
       rcases (show j = 0 ∨ j = 1 ∨ j = 2 ∨ j = 3 ∨ j = 4 from by omega) with rfl | rfl | rfl | rfl | rfl <;> rfl)
     rw [e]
     obtain ⟨z, rfl, -⟩ := o
     rw [aa h2] at e
     rw [e]
     rfl
   rw [List.getD_eq_getElem?_getD, List.getElem?_map, List.getElem?_range hi]
   simp only [Option.map_some, Option.getD_some, Nat.zero_add]
   exact ⟨hc 0 (by omega), hc 1 (by omega), hc 2 (by omega), hc 3 (by omega), hc 4 (by omega)⟩
end
section
open Go.RowKit
def Ns (w : World) (v : Value) (zs : List Int) : Prop := ∃ ao cap, v = .slice ao zs.length cap ∧ iG w ao (zs.map (.int .i64)) ∧ (ao = none → zs = [] ∧ cap = 0) ∧ zs.length ≤ cap
theorem Ns.keep {w w' : World} {v : Value} {l : List Int} (h : Ns w v l) (o : Only [] w w') : Ns w' v l := by
 obtain ⟨ao, cap, rfl, h1, h2, h3⟩ := h
 exact ⟨ao, cap, rfl, h1.jJ o, h2, h3⟩
theorem Xd (w : World) (v : Value) (zs : List Int) (i : Nat) (n : Int) (h : Ns w v zs) (hn : n ≤ 9223372036854775807) (hl : zs.length ≤ 1000000) (hi : i ≤ 1000000) :
   Calls Tryz.prog 9 #[v, .int .i64 i, .int .i64 n] w fun e w' => ∃ r : Int, e = .returned (.int .i64 r) ∧ 0 ≤ r ∧ (1 ≤ n → r < n) ∧ Only [] w w' := by
 obtain ⟨ao, cap, rfl, h1, h2, h3⟩ := h
 obtain ⟨len, hlen⟩ : ∃ len, len = zs.length := ⟨_, rfl⟩
 rw [← hlen] at hl h3 ⊢
 have HL := Lib.hid hlen
 have HN := Lib.hid hn
 by_cases h0 : len = 0
 · subst h0
   clear hn
   go_enter Tryz.func9, Tryz.ntmps9
   go_wp2_with fail
   go_ret
   exact ⟨0, rfl, by omega, fun h => by omega, Only.refl _ _⟩
 · obtain ⟨b, off, rfl, hc⟩ := h1.ints (by omega)
   have Oo : i % len < len := Nat.mod_lt _ (by omega)
   have c0 := fun (q : Nat) => (show (w.drewN q).cell? _ = _ from hc (i % len) (by omega))
   have d0 := hc (i % len) (by omega)
   have hl0 : ((len : Int) == 0) = false := by simp; omega
   have hlp : 0 < len := by omega
   have e1 : (i : Int) % (len : Int) = ((i % len : Nat) : Int) := by omega
   have e2 : (i : Int) / (len : Int) = ((i / len : Nat) : Int) := by omega
   obtain ⟨x, hx⟩ : ∃ x, x = zs.getD (i % len) 0 := ⟨_, rfl⟩
   rw [← hx] at c0 d0
   obtain ⟨p, hp⟩ : ∃ p, p = i % len := ⟨_, rfl⟩
   obtain ⟨q, hq⟩ : ∃ q, q = i / len := ⟨_, rfl⟩
   have hqi : q ≤ 1000000 := by rw [hq]; exact Nat.le_trans (Nat.div_le_self _ _) hi
   rw [← hp] at c0 d0 Oo e1
   rw [← hq] at e2
   obtain ⟨s, hs⟩ : ∃ s, (q : Int) % 7 = s := ⟨_, rfl⟩
   have hs1 : 0 ≤ s := by omega
   have hs2 : s ≤ 6 := by omega
   obtain ⟨t, ht⟩ : ∃ t, 1 + s = t := ⟨_, rfl⟩
   have ht1 : 1 ≤ t := by omega
   have ht2 : t ≤ 7 := by omega
   have ht3 : (t == 0) = false := by simp; omega
   have D : ∀ (d : Int) (w : World), Hid (Calls Tryz.prog 26 #[.int .i64 d, .int .i64 n] w fun e w' => e = .returned (.int .i64 (wR d n)) ∧ w' = w) := fun d w' => Lib.hid ((uu n d w' hn).mono fun _ _ h => ⟨h.1, h.2.symm⟩)
   have B := fun (d : Int) => Lib.hid (EH d n)
   clear h1 h2 h3 hc hx hp hq hlen hn HL
   go_enter Tryz.func9, Tryz.ntmps9
   go_wp2_with fail
   go_quiet ((go_at_call 26; exact Calls.quiet_of_same (D _ _).out))
   go_wp2_with fail
   go_ret
   exact ⟨_, rfl, (B _).out.1, (B _).out.2, (Only.refl _ _).drewN _⟩
end
section
open Go.ChangeShapes Go.WideShapes Go.ChangeAt Go.RowKit
section
variable {H : Type} {enc : TypeId × Value → H} {W : World} {base b0 : Nat} {v : Value} {d : DataW H} {ps : List MemPlace}
theorem Qu : maxLen ≤ 9223372036854775807 := by unfold maxLen; omega
set_option maxRecDepth 10000
theorem acX {ao : Option Addr} {zs : List Int} (h : iG W ao (zs.map (.int .u8))) (hw : ∀ z ∈ zs, (Lit.int .u8 z).wf = true) : BytesAt W ao zs.length := fun i hi => by
 obtain ⟨b, off, e, hc⟩ := h (by rw [List.length_map]; omega)
 have hc1 := hc i (by rw [List.length_map]; exact hi)
 have hx := hw (zs.getD i 0) (by rw [List.getD_eq_getElem?_getD, List.getElem?_eq_getElem hi]; exact List.getElem_mem _)
 have hx' : 0 ≤ zs.getD i 0 ∧ zs.getD i 0 ≤ 255 := by
   obtain ⟨z, hz⟩ : ∃ z, z = zs.getD i 0 := ⟨_, rfl⟩
   rw [← hz] at hx ⊢
   exact wf_u8 hx
 refine ⟨b, off, e, zs.getD i 0, ?_, hx'.1, hx'.2⟩
 simpa [List.getD_eq_getElem?_getD, hi] using hc1
theorem Fv (hok : Value.okWide Tryz.prog W .any b0 23 v) (h : DataW.Trod enc Tryz.prog W base (fun _ => true) true 23 v d ps) :
   ∃ (ao : Option Addr) (n cap : Nat), v = .slice ao n cap ∧ BytesAt W ao n ∧ n ≤ 9223372036854775807 := by
 obtain ⟨ao, cap, zs, rfl, hc, hw, hl, hm⟩ := Bi Tryz.underlying23 Tryz.underlying5 (by kernel_rfl) hok h
 exact ⟨ao, zs.length, cap, rfl, acX hc hw, Nat.le_trans hl (Nat.le_trans hm Qu)⟩
theorem Yv (hok : Value.okWide Tryz.prog W .any b0 29 v) (h : DataW.Trod enc Tryz.prog W base (fun _ => true) true 29 v d ps) :
   ∃ zs : List Int, Ns W v zs ∧ zs.length ≤ 9223372036854775807 := by
 obtain ⟨ao, cap, zs, rfl, c, w, l, m, n⟩ := PW Tryz.underlying29 Tryz.underlying3 (by kernel_rfl) hok h
 exact ⟨zs, ⟨ao, cap, rfl, c, n, l⟩, Nat.le_trans l (Nat.le_trans m Qu)⟩
end
end
section
open Go.RowKit
def sl3 (x : Option Addr × Nat × Nat) : Value := .slice x.1 x.2.1 x.2.2
theorem abh (w : World) (ao : Option Addr) (nb cap : Nat) (hnb : nb ≤ 9223372036854775807) (B : Nat) (T : TypeId) (f : Nat × Nat) (ns : List (Option Addr × Nat × Nat)) (n : Nat) (hn : n = ns.length) (hn2 : n ≤ 100) (hb : w.heap[B]? = some (.cells (ns.map sl3).toArray T f))
   (hns : ∀ x ∈ ns, x.2.1 ≤ 9223372036854775807) :
   Calls Tryz.prog 7 #[.slice ao nb cap, .slice (some ⟨B, 0, none⟩) n n] w fun e w' => e = .returned (.bool (decide (∀ x ∈ ns, x.2.1 ≤ 400) && decide (nb ≤ 400))) ∧ w = w' := by
 have HN := Lib.hid hn
 have HB := Lib.hid hb
 have HS := Lib.hid hns
 obtain ⟨r, hr⟩ : ∃ r, r = (decide (∀ x ∈ ns, x.2.1 ≤ 400) && decide (nb ≤ 400)) := ⟨_, rfl⟩
 rw [← hr]
 have HR := Lib.hid hr
 clear hn hb hns hr
 go_enter Tryz.func7, Tryz.ntmps7
 go_wp2_with fail
 go_loop [5] (fun i => ∃ k : Nat, k ≤ n ∧ i = .int .i64 k ∧ ∀ j x, j < k → ns[j]? = some x → x.2.1 ≤ 400) (fun i => n - (intOf i).toNat)
 case atStart => exact ⟨0, Nat.zero_le _, rfl, fun j x hj => by omega⟩
 case round =>
   obtain ⟨k, hk, rfl, hall⟩ := hrel
   have HA := Lib.hid hall
   clear hall
   by_cases hlt : k < n
   · have hkn : k < ns.length := by have := HN.out; omega
     have c0 := aa HB.out k
     have HX := Lib.hid (HS.out ns[k] (List.getElem_mem hkn))
     obtain ⟨x, hx⟩ : ∃ x, x = ns[k] := ⟨_, rfl⟩
     have HXK : Hid (ns[k]? = some x) := Lib.hid (by rw [List.getElem?_eq_getElem hkn, hx])
     have hmem : Hid (x ∈ ns) := Lib.hid (by rw [hx]; exact List.getElem_mem hkn)
     simp [hkn, ← hx] at c0
     rw [← hx] at HX
     clear hx
     obtain ⟨a, m, c⟩ := x
     simp only [sl3] at c0 HX
     have hx2 := HX.out
     by_cases h4 : m ≤ 400
     · have h5 : ¬ 400 < m := by omega
       go_wp2_with fail
       go_round
       case rel => exact ⟨k + 1, by omega, by go_num, fun j x hj hx => by
         by_cases e : j = k
         · subst e
           rw [HXK.out] at hx
           cases hx
           exact h4
         · exact HA.out j x (by omega) hx⟩
       case measure => simp [intOf]; omega
     · have h5 : 400 < m := by omega
       have hf : Hid ((decide (∀ x ∈ ns, x.2.1 ≤ 400) && decide (nb ≤ 400)) = false) := Lib.hid (by
         rw [decide_eq_false (fun h => h4 (h _ hmem.out))]; rfl)
       go_wp2_with fail
       go_ret
       exact ⟨vV (by rw [HR.out]; exact hf.out.symm), rfl⟩
   · have hf : Hid (decide (∀ x ∈ ns, x.2.1 ≤ 400) = true) := Lib.hid (decide_eq_true (fun x hx => by
       obtain ⟨j, hj, rfl⟩ := List.getElem_of_mem hx
       exact HA.out j _ (by have := HN.out; omega) (List.getElem?_eq_getElem hj)))
     by_cases h4 : nb ≤ 400
     · go_wp2_with fail
       go_ret
       exact ⟨vV (by rw [HR.out, hf.out, decide_eq_true h4]; simp; omega), rfl⟩
     · have h5 : 400 < nb := by omega
       go_wp2_with fail
       go_ret
       exact ⟨vV (by rw [HR.out, hf.out, decide_eq_false h4]; simp; omega), rfl⟩
end
section
open Go.RowKit
def blank : ByteArray := ⟨#[32]⟩
def dA (s : ByteArray) : List ByteArray := Lib.splitB blank 0 (Lib.countB s blank) s
theorem lX (s : ByteArray) : 0 < (dA s).length := by
 unfold dA
 rw [Lib.splitB_all blank (by decide) 0 _ s rfl]; omega
def gV (k : Nat) : ByteArray := ⟨(aI k).word.toArray⟩
def kG (w0 : ByteArray) : Nat → Option Nat
 | 0 => none
 | n + 1 => if gV (19 - (n + 1)) = w0 then some (19 - (n + 1)) else kG w0 n
theorem RQ {w0 : ByteArray} : ∀ n, n ≤ 19 → (∀ j, 19 - n ≤ j → j < 19 → gV j ≠ w0) → kG w0 n = none := by
 intro n
 induction n with
 | zero => intro _ _; rfl
 | succ n ih =>
   intro hn h
   unfold kG
   rw [if_neg (h _ (Nat.le_refl _) (by omega))]
   exact ih (by omega) fun j h1 h2 => h j (by omega) h2
theorem Ri {w0 : ByteArray} {k : Nat} (hk : k < 19) (he : gV k = w0) : ∀ n, n ≤ 19 → 19 - n ≤ k → (∀ j, 19 - n ≤ j → j < k → gV j ≠ w0) → kG w0 n = some k := by
 intro n
 induction n with
 | zero => intro _ h1; omega
 | succ n ih =>
   intro hn h1 h2
   unfold kG
   by_cases e : 19 - (n + 1) = k
   · rw [e, if_pos he]
   · rw [if_neg (h2 _ (Nat.le_refl _) (by omega))]
     exact ih (by omega) (by omega) fun j h3 h4 => h2 j (by omega) h4
def dW (f : iN) (ws : List ByteArray) : Nat → Option (List Int × List ByteArray)
 | 0 => some ([], ws)
 | i + 1 => match dW f ws i with
   | none => none
   | some (vs, rest) => if jo f i then (match rest with
     | [] => none
     | r :: rest' => match qN r.data.toList with
       | none => none
       | some n => if (⟨(Lib.itoa n).toArray⟩ : ByteArray) = r then some (vs ++ [n], rest') else none) else some (vs ++ [0], rest)
theorem xq {f : iN} {ws : List ByteArray} : ∀ i j, i ≤ j → dW f ws i = none → dW f ws j = none := by
 intro i j h hn
 induction j with
 | zero => obtain rfl : i = 0 := by omega
           exact hn
 | succ j ih =>
   by_cases e : i = j + 1
   · subst e; exact hn
   · unfold dW
     rw [ih (by omega)]
theorem F8 {f : iN} {ws : List ByteArray} : ∀ i vs rest, dW f ws i = some (vs, rest) → vs.length = i ∧ ∃ k, k ≤ ws.length ∧ rest = ws.drop k := by
 intro i
 induction i with
 | zero => intro vs rest h; simp [dW] at h; obtain ⟨rfl, rfl⟩ := h; exact ⟨rfl, 0, by omega, rfl⟩
 | succ i ih =>
   intro vs rest h
   unfold dW at h
   cases hf : dW f ws i with
   | none => rw [hf] at h; cases h
   | some p =>
     obtain ⟨v0, r0⟩ := p
     obtain ⟨h1, k, h2, h3⟩ := ih v0 r0 hf
     rw [hf] at h
     simp only at h
     split at h
     · cases r0 with
       | nil => cases h
       | cons r rest' =>
         simp only at h
         split at h
         · cases h
         · split at h
           · simp at h; obtain ⟨rfl, rfl⟩ := h
             refine ⟨by simp [h1], k + 1, ?_, ?_⟩
             · have := congrArg List.length h3; simp at this; omega
             · rw [← List.drop_drop, ← h3]; rfl
           · cases h
     · simp at h; obtain ⟨rfl, rfl⟩ := h
       exact ⟨by simp [h1], k, h2, h3⟩
def qF (vs : List Int) : Array Value := #[.int .i64 (vs.getD 0 0), .int .i64 (vs.getD 1 0), .int .i64 (vs.getD 2 0), .int .i64 (vs.getD 3 0)]
theorem PX (vs : List Int) (n : Int) (j : Nat) : (vs ++ [n]).getD j 0 = if j = vs.length then n else vs.getD j 0 := by
 simp only [List.getD_eq_getElem?_getD]
 by_cases h : j < vs.length
 · rw [List.getElem?_append_left h, if_neg (by omega)]
 · by_cases e : j = vs.length
   · subst e; simp
   · rw [if_neg e, List.getElem?_eq_none (by simp; omega), List.getElem?_eq_none (by omega)]
theorem ab7 (vs : List Int) : qF (vs ++ [0]) = qF vs := by
 have h : ∀ j, (vs ++ [(0 : Int)]).getD j 0 = vs.getD j 0 := fun j => by
   rw [PX]
   split
   · rename_i e; subst e; simp [List.getD_eq_getElem?_getD]
   · rfl
 simp only [qF, h]
theorem acD (vs : List Int) (n : Int) (h : vs.length < 4) : (qF vs).setIfInBounds vs.length (.int .i64 n) = qF (vs ++ [n]) := by
 rcases (show vs.length = 0 ∨ vs.length = 1 ∨ vs.length = 2 ∨ vs.length = 3 from by omega) with e | e | e | e <;> simp only [qF, PX, e] <;> rfl
theorem ag3 (vs : List Int) (j : Nat) (h : j < 4) : (qF vs)[j]? = some (.int .i64 (vs.getD j 0)) := by
 rcases (show j = 0 ∨ j = 1 ∨ j = 2 ∨ j = 3 from by omega) with rfl | rfl | rfl | rfl <;> rfl
theorem ZG {f : iN} {ws : List ByteArray} {i : Nat} {vs : List Int} {r : ByteArray} {rest : List ByteArray} (h : dW f ws.tail i = some (vs, r :: rest)) {o : Nat} (ho : o + (rest.length + 1) = ws.length) : ws.getD o ByteArray.empty = r ∧ r ∈ ws := by
 obtain ⟨-, k, hk, he⟩ := F8 i vs _ h
 rw [List.drop_tail] at he
 have hl := congrArg List.length he
 simp at hl
 have hko : o = k + 1 := by simp at hk; omega
 subst hko
 have hg : ws[k + 1]? = some r := by
   have h2 := congrArg (fun l : List ByteArray => l[0]?) he
   simp at h2
   exact h2.symm
 exact ⟨by rw [List.getD_eq_getElem?_getD, hg]; rfl, List.mem_of_getElem? hg⟩
theorem RY (sep : ByteArray) (n : Nat) : ∀ s, ∀ r ∈ Lib.splitB sep 0 n s, r.size ≤ s.size := by
 induction n with
 | zero => intro s r hr; simp [Lib.splitB] at hr; subst hr; exact Nat.le_refl _
 | succ n ih =>
   intro s r hr
   unfold Lib.splitB at hr
   split at hr
   · simp at hr; subst hr; exact Nat.le_refl _
   · rcases List.mem_cons.1 hr with rfl | h2
     · rw [ByteArray.size_extract]; omega
     · have := ih _ r h2
       rw [ByteArray.size_extract] at this; omega
theorem Oh {s r : ByteArray} (h : r ∈ dA s) : r.size ≤ s.size := RY _ _ _ _ h
theorem acH {l : List UInt8} {n : Int} (h : qN l = some n) : -9223372036854775808 ≤ n ∧ n ≤ 9223372036854775807 := by
 unfold qN Lib.atoiAll at h
 split at h
 · rename_i v hv
   cases l with
   | nil => cases hv
   | cons c r =>
     simp only at hv
     split at hv
     · cases hv
     · cases hv
     · rename_i u hu
       split at hv
       · cases hv
       · split at hv
         · cases hv
         · rename_i h1 h2
           cases h
           injection hv with hv
           subst hv
           split
           · rename_i hn
             have : ¬ 9223372036854775808 < u := fun hh => h2 ⟨hn, hh⟩
             omega
           · rename_i hn
             have : ¬ 9223372036854775808 ≤ u := fun hh => h1 ⟨hn, hh⟩
             omega
 · cases h
def Ec (k : Nat) (vs : List Int) : cB := ⟨(k : Int) + 1, vs.getD 0 0, vs.getD 1 0, vs.getD 2 0, vs.getD 3 0⟩
def eD (s : ByteArray) : Option cB := match kG ((dA s).headD ByteArray.empty) 19 with
 | none => none
 | some k => match dW (aI k) (dA s).tail 4 with
   | none => none
   | some (vs, rest) => if rest = [] ∧ bW (Ec k vs) = true then some (Ec k vs) else none
end
end Go.Proofs.YtncnepmgmphanaaGreatDoor
