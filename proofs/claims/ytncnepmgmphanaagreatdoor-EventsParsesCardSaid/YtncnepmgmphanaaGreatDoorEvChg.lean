/- A text with some bytes changed: the law's function returns some text (printed by gen_evchg.py). No condition beside those named. -/
import Derived.Test.YtncnepmgmphanaaGreatDoorMg26
import Derived.Test.YtncnepmgmphanaaGreatDoorMg23
import Derived.Deep.LoopGhost
set_option linter.unusedVariables false
set_option linter.unusedSimpArgs false
set_option linter.unusedSectionVars false
namespace Go.Proofs.YtncnepmgmphanaaGreatDoor
open Go.RowKit
theorem aha (w : World) (s : ByteArray) : ∃ v' w', (convert 9 23 (.string s)).run Tryz.prog w = .ok v' w' ∧ RB w' v' s.size ∧ Only [] w w' := by
 have hr := run_bytes_of_string (P := Tryz.prog) w 9 23 5 s Tryz.underlying9 Tryz.underlying23 Tryz.underlying5
 refine ⟨_, _, hr, ⟨_, 0, _, rfl, ?_, fun i hi => ?_⟩, (Only.refl _ _).drew.alloc _⟩
 · rcases Nat.eq_zero_or_pos s.size with h | h
   · omega
   · exact grownCap_ge w s.size 0 5
 · have hi' : i < s.data.size := hi
   refine ⟨s.data[i], ?_⟩
   rw [Nat.zero_add]
   exact (aa (blk_alloc_new w.drew _) i).trans (bytesRow_at s _ i hi')
theorem seven {w : World} {b : Nat} {T : TypeId} {f : Nat × Nat} (h : w.heap[b]? = some (.cells #[.string ⟨#[32]⟩, .string ⟨#[48]⟩, .string ⟨#[57]⟩, .string ⟨#[10]⟩, .string ⟨#[45]⟩, .string ⟨#[112, 97, 114, 107]⟩, .string ⟨#[115, 116, 97, 114, 116, 32, 49, 32, 50, 10]⟩] T f)) (x : Nat) (hx : x < 7) : ∃ S : ByteArray, w.cell? ⟨b, x, none⟩ = some (.string S) ∧ S.size ≤ 10 := by
 rw [aa h]
 rcases (show x = 0 ∨ x = 1 ∨ x = 2 ∨ x = 3 ∨ x = 4 ∨ x = 5 ∨ x = 6 from by omega) with rfl | rfl | rfl | rfl | rfl | rfl | rfl <;> exact ⟨_, rfl, by decide⟩
def Uv (xs : List Value) : Prop := ∀ x ∈ xs, ∃ b : UInt8, x = .int .u8 b.toNat
theorem uP (l : List UInt8) : Uv (l.map fun b => Value.int .u8 b.toNat) := fun x hx => by
 obtain ⟨b, -, rfl⟩ := List.mem_map.1 hx
 exact ⟨b, rfl⟩
theorem Ay {a b : List Value} (h : Uv a) (g : Uv b) : Uv (a ++ b) := fun x hx => by
 rcases List.mem_append.1 hx with h1 | h1
 · exact h x h1
 · exact g x h1
theorem TG (s : ByteArray) : Uv (Lib.strCells s) := uP s.data.toList
theorem acn {w : World} {B n : Nat} {v : Value} {xs : List Value} (h : w.ownsRow B 5 1 v n xs) (hv : v ≠ .slice none 0 0) (hb : Uv xs) : RB w v n := by
 obtain ⟨hl, ⟨rfl, h0⟩ | ⟨g, cap, cur, rfl, hb', hh, hn, hm, hs, ht⟩⟩ := h
 · exact absurd rfl hv
 · refine ⟨g, 0, cap, rfl, hn, fun i hi => ?_⟩
   have hx : xs[i]? = some xs[i] := List.getElem?_eq_getElem (by omega)
   obtain ⟨b, e⟩ := hb xs[i] (List.getElem_mem _)
   refine ⟨b, ?_⟩
   rw [Nat.zero_add, aa hh, ← e, ← hx, ← ht, List.getElem?_take, if_pos (by omega)]
   simp
set_option maxRecDepth 100000 in
set_option maxHeartbeats 4000000 in
theorem SE (w : World) (s : ByteArray) (v : Value) (zs : List Int) (h : Ns w v zs) (hs : s.size ≤ 10000000) (hl : zs.length ≤ 1000000) :
   Calls Tryz.prog 13 #[.string s, v] w fun e w' => ∃ t : ByteArray, e = .returned (.string t) ∧ t.size ≤ s.size + 200 ∧ Only [] w w' := by
 have HZ := Lib.hid h
 have NUM := Lib.hid (fun (w' : World) (o : Only [] w w') (i : Nat) (n : Int) (hn : n ≤ 9223372036854775807) (hi : i ≤ 1000000) => Xd w' v zs i n (h.keep o) hn hl hi)
 obtain ⟨ao, cap, rfl, -, -, hcap⟩ := h
 obtain ⟨m, hm⟩ : ∃ m, m = zs.length := ⟨_, rfl⟩
 rw [← hm] at NUM hl hcap ⊢
 clear hm
 obtain ⟨vb, wb, CV, hvb, hob⟩ := aha w s
 obtain ⟨g0, ald, cap0, rfl, hc0, hb0⟩ := hvb
 have HB := Lib.hid (And.intro hob hb0)
 obtain ⟨n0, hn0⟩ : ∃ n0, n0 = s.size := ⟨_, rfl⟩
 rw [← hn0] at hs hc0 CV HB ⊢
 clear hob hb0 hn0
 go_enter Tryz.func13, Tryz.ntmps13
 go_wp2_with fail
 have START := Lib.hid (show ∃ (k n : Nat), (Value.int .i64 0 = .int .i64 k) ∧ k + 20 = 20 ∧ k ≤ 14 ∧ n ≤ n0 + 10 * k ∧ RB wb (.slice (some ⟨g0, ald, none⟩) n0 cap0) n ∧ Only [] w wb from ⟨0, n0, rfl, by omega, by omega, by omega, ⟨_, _, _, rfl, hc0, HB.out.2⟩, HB.out.1⟩)
 clear CV HB
 go_loopg [5, 6] 20 (fun g s5 s6 wr => ∃ (k n : Nat), s6 = .int .i64 k ∧ k + g = 20 ∧ k ≤ 14 ∧ n ≤ n0 + 10 * k ∧ RB wr s5 n ∧ Only [] w wr)
 case atStart => exact START.out
 case round =>
   clear START
   obtain ⟨k, n, rfl, hg, hk, hn, hrb, ho⟩ := hrel
   obtain ⟨g, off, cp, rfl, hcp, hbs⟩ := hrb
   have OW := Lib.hid ho
   have BS := Lib.hid hbs
   clear ho hbs
   by_cases h1 : k + 1 < m ∧ k < 12
   · obtain ⟨ha, hb⟩ := h1
     have ha' : (k : Int) + 1 < (m : Int) := by omega
     have hb' : (k : Int) < 12 := by omega
     go_wp2_with fail
     refine ((NUM.out) _ OW.out k ((n : Int) + 1) (by omega) (by omega)).mono ?_
     rintro e w1 ⟨x, rfl, hx0, hx1, o1⟩
     have hx2 := hx1 (by omega)
     obtain ⟨xn, rfl⟩ : ∃ xn : Nat, x = xn := ⟨x.toNat, by omega⟩
     have hxn : xn ≤ n := by omega
     have O1 := Lib.hid (show Only [] wr w1 from o1)
     clear o1 hx0 hx1 hx2
     go_wp2_with fail
     obtain ⟨w2, hw2⟩ : ∃ w2, w2 = w1.alloc (.cells #[.string ⟨#[32]⟩, .string ⟨#[48]⟩, .string ⟨#[57]⟩, .string ⟨#[10]⟩, .string ⟨#[45]⟩, .string ⟨#[112, 97, 114, 107]⟩, .string ⟨#[115, 116, 97, 114, 116, 32, 49, 32, 50, 10]⟩] 9) := ⟨_, rfl⟩
     obtain ⟨tb, htb⟩ : ∃ tb, tb = w1.heap.size := ⟨_, rfl⟩
     have H2 := Lib.hid (show Only [] wr w2 ∧ w2.heap[tb]? = some (.cells #[.string ⟨#[32]⟩, .string ⟨#[48]⟩, .string ⟨#[57]⟩, .string ⟨#[10]⟩, .string ⟨#[45]⟩, .string ⟨#[112, 97, 114, 107]⟩, .string ⟨#[115, 116, 97, 114, 116, 32, 49, 32, 50, 10]⟩] 9 (0, 0)) from ⟨by rw [hw2]; exact O1.out.alloc _, by rw [hw2, htb]; exact blk_alloc_new _ _⟩)
     try rw [← hw2]
     try rw [← htb]
     clear hw2 htb
     refine ((NUM.out) w2 (OW.out.bF H2.out.1) (k + 1) 7 (by omega) (by omega)).mono ?_
     rintro e w3 ⟨y, rfl, hy0, hy1, o3⟩
     have hy2 := hy1 (by omega)
     obtain ⟨yn, rfl⟩ : ∃ yn : Nat, y = yn := ⟨y.toNat, by omega⟩
     have hyn : yn < 7 := by omega
     obtain ⟨S, hS, hSz⟩ := seven (o3.keep H2.out.2 (by simp)) yn hyn
     have O3 := Lib.hid (H2.out.1.bF o3)
     clear o3 hy0 hy1 hy2
     go_wp2_with fail
     refine ((NUM.out) w3 (OW.out.bF O3.out) (k + 1) 3 (by omega) (by omega)).mono ?_
     rintro e w4 ⟨z, rfl, hz0, hz1, o4⟩
     have O4 := Lib.hid (O3.out.bF o4)
     clear o4 hz1 hS
     have BS4 := Lib.hid (BS.out.keep O4.out)
     have Pk := Lib.hid (OW.out.bF O4.out)
     by_cases hc : z = 0 ∧ xn < n
     · obtain ⟨rfl, hlt⟩ := hc
       have hlt' : (xn : Int) < (n : Int) := by omega
       have hxc : xn ≤ cp := by omega
       have anp : xn + 1 ≤ cp := by omega
       have ant : xn + 1 ≤ n := by omega
       go_upto_region 8 with fail
       refine wp_region_any (by kernel_rfl) ?_
       change wpAny _ _ _ _ _ _ _ w4.drew
       obtain ⟨w5, dZ⟩ : ∃ w5, w5 = w4.drew := ⟨_, rfl⟩
       have H5 := Lib.hid (show kN w5 g off n ∧ Only [] w w5 from by rw [dZ]; exact ⟨BS4.out.keep (Only.refl _ _).drew, Pk.out.drew⟩)
       rw [← dZ]
       clear dZ
       have hwx : IntKind.i64.wrap ((xn : Int) + 1) = ((xn + 1 : Nat) : Int) := by rw [IntWalk.i64_in _ (by omega)]; omega
       have hwt : ((xn + 1 : Nat) : Int).toNat = xn + 1 := by omega
       have hle1 : ((xn + 1 : Nat) : Int) ≤ (n : Int) := by omega
       have hle0 : (0 : Int) ≤ ((xn + 1 : Nat) : Int) := by omega
       have q1 : (xn : Int) ≤ (xn : Int) + 1 := by omega
       have Uy : (xn : Int) ≤ (cp : Int) := by omega
       have q2 : (0 : Int) ≤ (xn : Int) + 1 := by omega
       have q3 : (xn : Int) + 1 ≤ (n : Int) := by omega
       have ahn : kN w5 g off xn := fun i hi => H5.out.1 i (by omega)
       have HBK := Lib.hid ahn
       clear ahn
       by_cases hcx : cp = xn + 1
       · skip
         refine wpAny_take (i := 0) (v := ?_) rfl (by kernel_rfl) (by kernel_rfl) (by kernel_rfl) (fun _ _ _ h => h) (Or.inl ⟨by rfl, ?_⟩) ?_
         rotate_left
         · (intro w; go_simp; try with_reducible rfl)
         refine wpAny_take (i := 1) (v := ?_) rfl (by kernel_rfl) (by kernel_rfl) (by kernel_rfl) (fun _ _ _ h => h) (Or.inl ⟨by rfl, ?_⟩) ?_
         rotate_left
         · (intro w; go_simp; try with_reducible rfl)
         refine wpAny_take (i := 2) (v := ?_) rfl (by kernel_rfl) (by kernel_rfl) (by kernel_rfl) (fun _ _ _ h => h) (Or.inl ⟨by rfl, ?_⟩) ?_
         rotate_left
         · (intro w; go_simp; try with_reducible rfl)
         refine wpAny_take (i := 3) (v := ?_) rfl (by kernel_rfl) (by kernel_rfl) (by kernel_rfl) (fun _ _ _ h => h) (Or.inl ⟨by rfl, ?_⟩) ?_
         rotate_left
         · (intro w; go_simp; try with_reducible rfl)
         refine wpAny_take (i := 4) (v := ?_) rfl (by kernel_rfl) (by kernel_rfl) (by kernel_rfl) (fun _ _ _ h => h) (Or.inl ⟨by rfl, ?_⟩) ?_
         rotate_left
         · (intro w; go_simp; try with_reducible rfl)
         refine wpAny_take (i := 5) (v := ?_) rfl (by kernel_rfl) (by kernel_rfl) (by kernel_rfl) (fun _ _ _ h => h) (Or.inl ⟨by rfl, ?_⟩) ?_
         rotate_left
         · (intro w; go_simp; try with_reducible rfl)
         refine wpAny_take (i := 6) (v := ?_) rfl (by kernel_rfl) (by kernel_rfl) (by kernel_rfl) (fun _ _ _ h => h) (Or.inl ⟨by rfl, ?_⟩) ?_
         rotate_left
         · (intro w; go_simp; try with_reducible rfl)
         refine wpAny_take (i := 7) (v := ?_) rfl (by kernel_rfl) (by kernel_rfl) (by kernel_rfl) (fun _ _ _ h => h) (Or.inl ⟨by rfl, ?_⟩) ?_
         rotate_left
         · (intro w; go_simp; try with_reducible rfl)
         try simp only [Act.put, sI]
         refine wpAny_ready (rs := [8]) (by kernel_rfl) (by simp) ?_
         refine AllReady.cons rfl (fun K hK => ?_) AllReady.nil
         rw [if_pos (by rfl)]
         simp only [Act.put, List.getElem_toArray, List.getElem_cons_succ, List.getElem_cons_zero, List.setIfInBounds_toArray, List.set_cons_zero, List.set_cons_succ]
         refine Ty (g1 := g) (o1 := off) (k := xn) (g2 := g) (o2 := off) (m := n - (xn + 1)) (c := 0) rfl rfl rfl HBK.out (fun i hi => by omega) (by omega) ?_
         intro v6 w6 hr6 o6
         have H6 := Lib.hid (And.intro hr6 (H5.out.2.bF o6))
         clear hr6 o6
         refine hK _ _ ?_
         clear hK K
         try simp only [Act.put, sI]
         refine wpAny_take (i := 9) (v := ?_) rfl (by kernel_rfl) (by kernel_rfl) (by kernel_rfl) (fun _ _ _ h => h) (Or.inl ⟨by rfl, ?_⟩) ?_
         rotate_left
         · (intro w; go_simp; try with_reducible rfl)
         try simp only [Act.put, sI]
         refine wpAny_done (by kernel_rfl) ?_ _
         go_wp2_with fail
         go_roundg (20 - (k + 2))
         case measure => omega
         case rel => exact ⟨k + 2, _, by first | rfl | (congr 1; omega), by omega, by omega, by omega, H6.out.1, H6.out.2⟩
       · skip
         refine wpAny_take (i := 0) (v := ?_) rfl (by kernel_rfl) (by kernel_rfl) (by kernel_rfl) (fun _ _ _ h => h) (Or.inl ⟨by rfl, ?_⟩) ?_
         rotate_left
         · (intro w; go_simp; try with_reducible rfl)
         refine wpAny_take (i := 1) (v := ?_) rfl (by kernel_rfl) (by kernel_rfl) (by kernel_rfl) (fun _ _ _ h => h) (Or.inl ⟨by rfl, ?_⟩) ?_
         rotate_left
         · (intro w; go_simp; try with_reducible rfl)
         refine wpAny_take (i := 2) (v := ?_) rfl (by kernel_rfl) (by kernel_rfl) (by kernel_rfl) (fun _ _ _ h => h) (Or.inl ⟨by rfl, ?_⟩) ?_
         rotate_left
         · (intro w; go_simp; try with_reducible rfl)
         refine wpAny_take (i := 3) (v := ?_) rfl (by kernel_rfl) (by kernel_rfl) (by kernel_rfl) (fun _ _ _ h => h) (Or.inl ⟨by rfl, ?_⟩) ?_
         rotate_left
         · (intro w; go_simp; try with_reducible rfl)
         refine wpAny_take (i := 4) (v := ?_) rfl (by kernel_rfl) (by kernel_rfl) (by kernel_rfl) (fun _ _ _ h => h) (Or.inl ⟨by rfl, ?_⟩) ?_
         rotate_left
         · (intro w; go_simp; try with_reducible rfl)
         refine wpAny_take (i := 5) (v := ?_) rfl (by kernel_rfl) (by kernel_rfl) (by kernel_rfl) (fun _ _ _ h => h) (Or.inl ⟨by rfl, ?_⟩) ?_
         rotate_left
         · (intro w; go_simp; try with_reducible rfl)
         refine wpAny_take (i := 6) (v := ?_) rfl (by kernel_rfl) (by kernel_rfl) (by kernel_rfl) (fun _ _ _ h => h) (Or.inl ⟨by rfl, ?_⟩) ?_
         rotate_left
         · (intro w; go_simp; try with_reducible rfl)
         refine wpAny_take (i := 7) (v := ?_) rfl (by kernel_rfl) (by kernel_rfl) (by kernel_rfl) (fun _ _ _ h => h) (Or.inl ⟨by rfl, ?_⟩) ?_
         rotate_left
         · (intro w; go_simp; try with_reducible rfl)
         try simp only [Act.put, sI]
         refine wpAny_ready (rs := [8]) (by kernel_rfl) (by simp) ?_
         refine AllReady.cons rfl (fun K hK => ?_) AllReady.nil
         rw [if_pos (by rfl)]
         simp only [Act.put, List.getElem_toArray, List.getElem_cons_succ, List.getElem_cons_zero, List.setIfInBounds_toArray, List.set_cons_zero, List.set_cons_succ]
         refine Ty (g1 := g) (o1 := off) (k := xn) (g2 := g) (o2 := (off + (xn + 1))) (m := n - (xn + 1)) (c := cp - (xn + 1)) rfl rfl rfl HBK.out (fun i hi => by rw [show off + (xn + 1) + i = off + (xn + 1 + i) by omega]; exact H5.out.1 (xn + 1 + i) (by omega)) (by omega) ?_
         intro v6 w6 hr6 o6
         have H6 := Lib.hid (And.intro hr6 (H5.out.2.bF o6))
         clear hr6 o6
         refine hK _ _ ?_
         clear hK K
         try simp only [Act.put, sI]
         refine wpAny_take (i := 9) (v := ?_) rfl (by kernel_rfl) (by kernel_rfl) (by kernel_rfl) (fun _ _ _ h => h) (Or.inl ⟨by rfl, ?_⟩) ?_
         rotate_left
         · (intro w; go_simp; try with_reducible rfl)
         try simp only [Act.put, sI]
         refine wpAny_done (by kernel_rfl) ?_ _
         go_wp2_with fail
         go_roundg (20 - (k + 2))
         case measure => omega
         case rel => exact ⟨k + 2, _, by first | rfl | (congr 1; omega), by omega, by omega, by omega, H6.out.1, H6.out.2⟩
     · have hxc : (xn : Int) ≤ (cp : Int) := by omega
       have hx0' : (0 : Int) ≤ (xn : Int) := by omega
       have anc : (xn : Int) ≤ (n : Int) := by omega
       have anb : xn ≤ cp := by omega
       skip
       by_cases z0 : z = 0
       · have anr : ¬ (xn : Int) < (n : Int) := by
           intro hh
           exact hc ⟨z0, by omega⟩
         subst z0
         clear hc
         go_upto_region 9 with fail
         refine wp_region_any (by kernel_rfl) ?_
         change wpAny _ _ _ _ _ _ _ w4.drew
         obtain ⟨w5, dZ⟩ : ∃ w5, w5 = w4.drew := ⟨_, rfl⟩
         have H5 := Lib.hid (show kN w5 g off n ∧ Only [] w w5 from by rw [dZ]; exact ⟨BS4.out.keep (Only.refl _ _).drew, Pk.out.drew⟩)
         rw [← dZ]
         clear dZ
         obtain ⟨i, hi, hz9, hsz, hby⟩ := info_parts Gt
         obtain ⟨o2, ho2, acT⟩ : ∃ o2, (if cp = xn then (some ⟨g, off, none⟩ : Option Addr) else some ⟨g, off + xn, none⟩) = some ⟨g, o2, none⟩ ∧ kN w5 g o2 (n - xn) := by
           by_cases hcx : cp = xn
           · exact ⟨off, if_pos hcx, fun i hi => by omega⟩
           · exact ⟨off + xn, if_neg hcx, fun i hi => by rw [show off + xn + i = off + (xn + i) by omega]; exact H5.out.1 (xn + i) (by omega)⟩
         obtain ⟨l1, hl1, hc1⟩ := kN.list (w := w5) (g := g) (off := off) xn (fun i hi => H5.out.1 i (by omega))
         obtain ⟨l2, hl2, hc2⟩ := kN.list (w := w5) (g := g) (off := o2) (n - xn) acT
         have HL := Lib.hid (And.intro hl1 (And.intro hc1 (And.intro hl2 hc2)))
         clear hl1 hc1 hl2 hc2
         refine wpAny_take (i := 1) (v := ?_) rfl (by kernel_rfl) (by kernel_rfl) (by kernel_rfl) (fun _ _ _ h => h) (Or.inl ⟨by rfl, ?_⟩) ?_
         rotate_left
         · (intro w; go_simp; try with_reducible rfl)
         refine wpAny_take (i := 2) (v := ?_) rfl (by kernel_rfl) (by kernel_rfl) (by kernel_rfl) (fun _ _ _ h => h) (Or.inl ⟨by rfl, ?_⟩) ?_
         rotate_left
         · (intro w; go_simp; try with_reducible rfl)
         refine wpAny_take (i := 3) (v := ?_) rfl (by kernel_rfl) (by kernel_rfl) (by kernel_rfl) (fun _ _ _ h => h) (Or.inl ⟨by rfl, ?_⟩) ?_
         rotate_left
         · (intro w; go_simp; try with_reducible rfl)
         refine wpAny_take (i := 5) (v := ?_) rfl (by kernel_rfl) (by kernel_rfl) (by kernel_rfl) (fun _ _ _ h => h) (Or.inl ⟨by rfl, ?_⟩) ?_
         rotate_left
         · (intro w; go_simp; try with_reducible rfl)
         refine wpAny_take (i := 7) (v := ?_) rfl (by kernel_rfl) (by kernel_rfl) (by kernel_rfl) (fun _ _ _ h => h) (Or.inl ⟨by rfl, ?_⟩) ?_
         rotate_left
         · (intro w; go_simp; try with_reducible rfl)
         refine wpAny_take (i := 8) (v := ?_) rfl (by kernel_rfl) (by kernel_rfl) (by kernel_rfl) (fun _ _ _ h => h) (Or.inl ⟨by rfl, ?_⟩) ?_
         rotate_left
         · (intro w; go_simp; try with_reducible rfl)
         refine wpAny_take (i := 9) (v := ?_) rfl (by kernel_rfl) (by kernel_rfl) (by kernel_rfl) (fun _ _ _ h => h) (Or.inl ⟨by rfl, ?_⟩) ?_
         rotate_left
         · (intro w; go_simp; try with_reducible rfl)
         try simp only [Act.put, sI]
         refine wpAny_ready (rs := [0]) (by kernel_rfl) (by simp) ?_
         refine AllReady.cons rfl (fun K hK => ?_) AllReady.nil
         go_simp
         obtain ⟨w6, sF⟩ : ∃ w6, w6 = w5.alloc (.cells #[] 5) := ⟨_, rfl⟩
         obtain ⟨ab, hab⟩ : ∃ ab, ab = w5.heap.size := ⟨_, rfl⟩
         have H6 := Lib.hid (show Only [] w5 w6 ∧ w6.ownsRow w5.heap.size 5 1 (.slice (some ⟨ab, 0, none⟩) 0 0) 0 [] from ⟨by rw [sF]; exact (Only.refl _ _).alloc _, by rw [hab, sF]; exact ⟨rfl, .inr ⟨w5.heap.size, 0, #[], rfl, Nat.le_refl _, blk_alloc_new _ _, Nat.le_refl _, by decide, rfl, rfl⟩⟩⟩)
         try rw [← sF]
         try rw [← hab]
         clear sF hab
         refine hK _ _ ?_
         clear hK K
         try simp only [Act.put, sI]
         refine wpAny_ready (rs := [4]) (by kernel_rfl) (by simp) ?_
         refine AllReady.cons rfl (fun K hK => ?_) AllReady.nil
         rw [if_pos (by rfl)]
         simp only [Act.put, List.getElem_toArray, List.getElem_cons_succ, List.getElem_cons_zero, List.setIfInBounds_toArray, List.set_cons_zero, List.set_cons_succ]
         refine wp_append_own w6 _ _ 23 rfl w5.heap.size 5 i _ 1 1 Tryz.underlying23 hi hz9 hsz hby rfl (by decide) (.slice (some ⟨ab, 0, none⟩) 0 0) 0 [] rfl H6.out.2 ⟨g, off, none⟩ xn cp (l1.map fun b => Value.int .u8 b.toNat) rfl (by rw [List.length_map, HL.out.1, Nat.mul_one]) (fun q u hq => H6.out.1.keepCell (HL.out.2.1 q u hq) (by simp)) (tQ l1) (by unfold maxLen; omega) (by omega) H6.out.1.size ?_
         intro v7 w7 Nc Et Qr
         have H7 := Lib.hid (show Only [] w5 w7 ∧ w7.ownsRow w5.heap.size 5 1 v7 xn (l1.map fun b => Value.int .u8 b.toNat) ∧ v7 ≠ .slice none 0 0 from ⟨H6.out.1.grown Et (fun q hq => .inr (H6.out.2.lt q hq).1), by simpa using Nc, fun e => by have := (Qr.1 e).1; cases this⟩)
         clear Nc Et Qr
         refine hK _ _ ?_
         clear hK K
         try simp only [Act.put, sI]
         refine wpAny_ready (rs := [6]) (by kernel_rfl) (by simp) ?_
         refine AllReady.cons rfl (fun K hK => ?_) AllReady.nil
         rw [if_pos (by rfl)]
         simp only [Act.put, List.getElem_toArray, List.getElem_cons_succ, List.getElem_cons_zero, List.setIfInBounds_toArray, List.set_cons_zero, List.set_cons_succ]
         refine Uk (base := w5.heap.size) (n := xn) (v := v7) (xs := l1.map fun b => Value.int .u8 b.toNat) (s := S) rfl rfl rfl H7.out.2.1 (by omega) H7.out.1.size ?_
         intro v8 w8 PE Gl nn8
         have H8 := Lib.hid (show Only [] w5 w8 ∧ w8.ownsRow w5.heap.size 5 1 v8 (xn + S.size) ((l1.map fun b => Value.int .u8 b.toNat) ++ Lib.strCells S) ∧ v8 ≠ .slice none 0 0 from ⟨H7.out.1.grown Gl (fun q hq => .inr (H7.out.2.1.lt q hq).1), PE, fun e => H7.out.2.2 (nn8 e)⟩)
         clear PE Gl nn8
         refine hK _ _ ?_
         clear hK K
         try simp only [Act.put, sI]
         refine wpAny_ready (rs := [10]) (by kernel_rfl) (by simp) ?_
         refine AllReady.cons rfl (fun K hK => ?_) AllReady.nil
         rw [if_pos (by rfl)]
         simp only [Act.put, List.getElem_toArray, List.getElem_cons_succ, List.getElem_cons_zero, List.setIfInBounds_toArray, List.set_cons_zero, List.set_cons_succ]
         refine wp_append_own w8 _ _ 23 rfl w5.heap.size 5 i _ 1 1 Tryz.underlying23 hi hz9 hsz hby rfl (by decide) v8 (xn + S.size) ((l1.map fun b => Value.int .u8 b.toNat) ++ Lib.strCells S) rfl H8.out.2.1 ⟨g, o2, none⟩ (n - xn) (cp - xn) (l2.map fun b => Value.int .u8 b.toNat) rfl (by rw [List.length_map, HL.out.2.2.1, Nat.mul_one]) (fun q u hq => H8.out.1.keepCell (HL.out.2.2.2 q u hq) (by simp)) (tQ l2) (by unfold maxLen; omega) (by omega) H8.out.1.size ?_
         intro v9 w9 OX Ex Qb
         have H9 := Lib.hid (show RB w9 v9 (xn + S.size + (n - xn)) ∧ Only [] w w9 from ⟨acn OX (fun e => H8.out.2.2 (Qb.1 e).1) (Ay (Ay (uP l1) (TG S)) (uP l2)), H5.out.2.bF (H8.out.1.grown Ex (fun q hq => .inr (H8.out.2.1.lt q hq).1))⟩)
         clear OX Ex Qb
         refine hK _ _ ?_
         clear hK K
         try simp only [Act.put, sI]
         refine wpAny_take (i := 11) (v := ?_) rfl (by kernel_rfl) (by kernel_rfl) (by kernel_rfl) (fun _ _ _ h => h) (Or.inl ⟨by rfl, ?_⟩) ?_
         rotate_left
         · (intro w; go_simp; try with_reducible rfl)
         try simp only [Act.put, sI]
         refine wpAny_done (by kernel_rfl) ?_ _
         go_wp2_with fail
         go_roundg (20 - (k + 2))
         case measure => omega
         case rel => exact ⟨k + 2, _, by first | rfl | (congr 1; omega), by omega, by omega, by omega, H9.out.1, H9.out.2⟩
       · have ez : (z == 0) = false := by simpa using z0
         clear hc
         go_upto_region 9 with fail
         refine wp_region_any (by kernel_rfl) ?_
         change wpAny _ _ _ _ _ _ _ w4.drew
         obtain ⟨w5, dZ⟩ : ∃ w5, w5 = w4.drew := ⟨_, rfl⟩
         have H5 := Lib.hid (show kN w5 g off n ∧ Only [] w w5 from by rw [dZ]; exact ⟨BS4.out.keep (Only.refl _ _).drew, Pk.out.drew⟩)
         rw [← dZ]
         clear dZ
         obtain ⟨i, hi, hz9, hsz, hby⟩ := info_parts Gt
         obtain ⟨o2, ho2, acT⟩ : ∃ o2, (if cp = xn then (some ⟨g, off, none⟩ : Option Addr) else some ⟨g, off + xn, none⟩) = some ⟨g, o2, none⟩ ∧ kN w5 g o2 (n - xn) := by
           by_cases hcx : cp = xn
           · exact ⟨off, if_pos hcx, fun i hi => by omega⟩
           · exact ⟨off + xn, if_neg hcx, fun i hi => by rw [show off + xn + i = off + (xn + i) by omega]; exact H5.out.1 (xn + i) (by omega)⟩
         obtain ⟨l1, hl1, hc1⟩ := kN.list (w := w5) (g := g) (off := off) xn (fun i hi => H5.out.1 i (by omega))
         obtain ⟨l2, hl2, hc2⟩ := kN.list (w := w5) (g := g) (off := o2) (n - xn) acT
         have HL := Lib.hid (And.intro hl1 (And.intro hc1 (And.intro hl2 hc2)))
         clear hl1 hc1 hl2 hc2
         refine wpAny_take (i := 1) (v := ?_) rfl (by kernel_rfl) (by kernel_rfl) (by kernel_rfl) (fun _ _ _ h => h) (Or.inl ⟨by rfl, ?_⟩) ?_
         rotate_left
         · (intro w; go_simp; try with_reducible rfl)
         refine wpAny_take (i := 2) (v := ?_) rfl (by kernel_rfl) (by kernel_rfl) (by kernel_rfl) (fun _ _ _ h => h) (Or.inl ⟨by rfl, ?_⟩) ?_
         rotate_left
         · (intro w; go_simp; try with_reducible rfl)
         refine wpAny_take (i := 3) (v := ?_) rfl (by kernel_rfl) (by kernel_rfl) (by kernel_rfl) (fun _ _ _ h => h) (Or.inl ⟨by rfl, ?_⟩) ?_
         rotate_left
         · (intro w; go_simp; try with_reducible rfl)
         refine wpAny_take (i := 5) (v := ?_) rfl (by kernel_rfl) (by kernel_rfl) (by kernel_rfl) (fun _ _ _ h => h) (Or.inl ⟨by rfl, ?_⟩) ?_
         rotate_left
         · (intro w; go_simp; try with_reducible rfl)
         refine wpAny_take (i := 7) (v := ?_) rfl (by kernel_rfl) (by kernel_rfl) (by kernel_rfl) (fun _ _ _ h => h) (Or.inl ⟨by rfl, ?_⟩) ?_
         rotate_left
         · (intro w; go_simp; try with_reducible rfl)
         refine wpAny_take (i := 8) (v := ?_) rfl (by kernel_rfl) (by kernel_rfl) (by kernel_rfl) (fun _ _ _ h => h) (Or.inl ⟨by rfl, ?_⟩) ?_
         rotate_left
         · (intro w; go_simp; try with_reducible rfl)
         refine wpAny_take (i := 9) (v := ?_) rfl (by kernel_rfl) (by kernel_rfl) (by kernel_rfl) (fun _ _ _ h => h) (Or.inl ⟨by rfl, ?_⟩) ?_
         rotate_left
         · (intro w; go_simp; try with_reducible rfl)
         try simp only [Act.put, sI]
         refine wpAny_ready (rs := [0]) (by kernel_rfl) (by simp) ?_
         refine AllReady.cons rfl (fun K hK => ?_) AllReady.nil
         go_simp
         obtain ⟨w6, sF⟩ : ∃ w6, w6 = w5.alloc (.cells #[] 5) := ⟨_, rfl⟩
         obtain ⟨ab, hab⟩ : ∃ ab, ab = w5.heap.size := ⟨_, rfl⟩
         have H6 := Lib.hid (show Only [] w5 w6 ∧ w6.ownsRow w5.heap.size 5 1 (.slice (some ⟨ab, 0, none⟩) 0 0) 0 [] from ⟨by rw [sF]; exact (Only.refl _ _).alloc _, by rw [hab, sF]; exact ⟨rfl, .inr ⟨w5.heap.size, 0, #[], rfl, Nat.le_refl _, blk_alloc_new _ _, Nat.le_refl _, by decide, rfl, rfl⟩⟩⟩)
         try rw [← sF]
         try rw [← hab]
         clear sF hab
         refine hK _ _ ?_
         clear hK K
         try simp only [Act.put, sI]
         refine wpAny_ready (rs := [4]) (by kernel_rfl) (by simp) ?_
         refine AllReady.cons rfl (fun K hK => ?_) AllReady.nil
         rw [if_pos (by rfl)]
         simp only [Act.put, List.getElem_toArray, List.getElem_cons_succ, List.getElem_cons_zero, List.setIfInBounds_toArray, List.set_cons_zero, List.set_cons_succ]
         refine wp_append_own w6 _ _ 23 rfl w5.heap.size 5 i _ 1 1 Tryz.underlying23 hi hz9 hsz hby rfl (by decide) (.slice (some ⟨ab, 0, none⟩) 0 0) 0 [] rfl H6.out.2 ⟨g, off, none⟩ xn cp (l1.map fun b => Value.int .u8 b.toNat) rfl (by rw [List.length_map, HL.out.1, Nat.mul_one]) (fun q u hq => H6.out.1.keepCell (HL.out.2.1 q u hq) (by simp)) (tQ l1) (by unfold maxLen; omega) (by omega) H6.out.1.size ?_
         intro v7 w7 Nc Et Qr
         have H7 := Lib.hid (show Only [] w5 w7 ∧ w7.ownsRow w5.heap.size 5 1 v7 xn (l1.map fun b => Value.int .u8 b.toNat) ∧ v7 ≠ .slice none 0 0 from ⟨H6.out.1.grown Et (fun q hq => .inr (H6.out.2.lt q hq).1), by simpa using Nc, fun e => by have := (Qr.1 e).1; cases this⟩)
         clear Nc Et Qr
         refine hK _ _ ?_
         clear hK K
         try simp only [Act.put, sI]
         refine wpAny_ready (rs := [6]) (by kernel_rfl) (by simp) ?_
         refine AllReady.cons rfl (fun K hK => ?_) AllReady.nil
         rw [if_pos (by rfl)]
         simp only [Act.put, List.getElem_toArray, List.getElem_cons_succ, List.getElem_cons_zero, List.setIfInBounds_toArray, List.set_cons_zero, List.set_cons_succ]
         refine Uk (base := w5.heap.size) (n := xn) (v := v7) (xs := l1.map fun b => Value.int .u8 b.toNat) (s := S) rfl rfl rfl H7.out.2.1 (by omega) H7.out.1.size ?_
         intro v8 w8 PE Gl nn8
         have H8 := Lib.hid (show Only [] w5 w8 ∧ w8.ownsRow w5.heap.size 5 1 v8 (xn + S.size) ((l1.map fun b => Value.int .u8 b.toNat) ++ Lib.strCells S) ∧ v8 ≠ .slice none 0 0 from ⟨H7.out.1.grown Gl (fun q hq => .inr (H7.out.2.1.lt q hq).1), PE, fun e => H7.out.2.2 (nn8 e)⟩)
         clear PE Gl nn8
         refine hK _ _ ?_
         clear hK K
         try simp only [Act.put, sI]
         refine wpAny_ready (rs := [10]) (by kernel_rfl) (by simp) ?_
         refine AllReady.cons rfl (fun K hK => ?_) AllReady.nil
         rw [if_pos (by rfl)]
         simp only [Act.put, List.getElem_toArray, List.getElem_cons_succ, List.getElem_cons_zero, List.setIfInBounds_toArray, List.set_cons_zero, List.set_cons_succ]
         refine wp_append_own w8 _ _ 23 rfl w5.heap.size 5 i _ 1 1 Tryz.underlying23 hi hz9 hsz hby rfl (by decide) v8 (xn + S.size) ((l1.map fun b => Value.int .u8 b.toNat) ++ Lib.strCells S) rfl H8.out.2.1 ⟨g, o2, none⟩ (n - xn) (cp - xn) (l2.map fun b => Value.int .u8 b.toNat) rfl (by rw [List.length_map, HL.out.2.2.1, Nat.mul_one]) (fun q u hq => H8.out.1.keepCell (HL.out.2.2.2 q u hq) (by simp)) (tQ l2) (by unfold maxLen; omega) (by omega) H8.out.1.size ?_
         intro v9 w9 OX Ex Qb
         have H9 := Lib.hid (show RB w9 v9 (xn + S.size + (n - xn)) ∧ Only [] w w9 from ⟨acn OX (fun e => H8.out.2.2 (Qb.1 e).1) (Ay (Ay (uP l1) (TG S)) (uP l2)), H5.out.2.bF (H8.out.1.grown Ex (fun q hq => .inr (H8.out.2.1.lt q hq).1))⟩)
         clear OX Ex Qb
         refine hK _ _ ?_
         clear hK K
         try simp only [Act.put, sI]
         refine wpAny_take (i := 11) (v := ?_) rfl (by kernel_rfl) (by kernel_rfl) (by kernel_rfl) (fun _ _ _ h => h) (Or.inl ⟨by rfl, ?_⟩) ?_
         rotate_left
         · (intro w; go_simp; try with_reducible rfl)
         try simp only [Act.put, sI]
         refine wpAny_done (by kernel_rfl) ?_ _
         go_wp2_with fail
         go_roundg (20 - (k + 2))
         case measure => omega
         case rel => exact ⟨k + 2, _, by first | rfl | (congr 1; omega), by omega, by omega, by omega, H9.out.1, H9.out.2⟩
   · obtain ⟨t, ht, hcv⟩ := agr (w := wr) (v := .slice (some ⟨g, off, none⟩) n cp) ⟨g, off, cp, rfl, hcp, BS.out⟩
     by_cases ha : k + 1 < m
     · have ha' : (k : Int) + 1 < (m : Int) := by omega
       have hb' : ¬ (k : Int) < 12 := by omega
       go_wp2_with fail
       go_ret
       exact ⟨_, rfl, by omega, OW.out⟩
     · have ha' : ¬ (k : Int) + 1 < (m : Int) := by omega
       go_wp2_with fail
       go_ret
       exact ⟨_, rfl, by omega, OW.out⟩
end Go.Proofs.YtncnepmgmphanaaGreatDoor
