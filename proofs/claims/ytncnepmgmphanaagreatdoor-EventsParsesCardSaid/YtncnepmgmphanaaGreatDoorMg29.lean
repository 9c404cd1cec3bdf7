/- The reference's events of a text. No condition beside those named. -/
import Derived.Test.YtncnepmgmphanaaGreatDoorEvRef6
import Derived.Test.YtncnepmgmphanaaGreatDoorMg27
set_option linter.unusedVariables false
set_option linter.unusedSimpArgs false
set_option linter.unusedSectionVars false
namespace Go.Proofs.YtncnepmgmphanaaGreatDoor
section
open Go.RowKit
theorem agI {L : List UInt8} {a i : Nat} (ha : a ≤ i) (hi : L[i]? = some 10) : L.drop a = (L.take i).drop a ++ 10 :: L.drop (i + 1) := by
 have hl : i < L.length := (List.getElem?_eq_some_iff.1 hi).1
 have e : L[i] = 10 := (List.getElem?_eq_some_iff.1 hi).2
 conv => lhs; rw [← List.take_append_drop i L]
 rw [List.drop_append_of_le_length (by rw [List.length_take]; omega), List.drop_eq_getElem_cons hl, e]
theorem afF {L : List UInt8} {a i : Nat} (hi : i ≤ L.length) (h : ∀ j, a ≤ j → j < i → L[j]? ≠ some 10) : (10 : UInt8) ∉ (L.take i).drop a := by
 intro hm
 obtain ⟨j, hj, e⟩ := List.getElem_of_mem hm
 rw [List.getElem_drop, List.getElem_take] at e
 rw [List.length_drop, List.length_take] at hj
 refine h (a + j) (by omega) (by omega) ?_
 rw [List.getElem?_eq_getElem (by omega), e]
theorem Zf {s : ByteArray} {a i f : Nat} {out : List cB} {n : Int} (ha : a ≤ i) (hi : s.data.toList[i]? = some 10) (h : ∀ j, a ≤ j → j < i → s.data.toList[j]? ≠ some 10) :
   iB (f + 1) (s.data.toList.drop a) out n = match eD (s.extract a i) with
     | none => ([], n, 4)
     | some e => if out.length = 65536 then ([], n, 2) else iB f (s.data.toList.drop (i + 1)) (out ++ [e]) (n + 1) := by
 have hl : i < s.data.toList.length := (List.getElem?_eq_some_iff.1 hi).1
 have e1 : (⟨((s.data.toList.take i).drop a).toArray⟩ : ByteArray) = s.extract a i := by rw [← ext_list]
 rw [lW, agI ha hi, if_neg (by simp), acB (afF (by omega) h), if_pos rfl, e1]
 try rfl
theorem Vg {s : ByteArray} {a f : Nat} {out : List cB} {n : Int} (ha : a < s.size) (h : ∀ j, a ≤ j → j < s.size → s.data.toList[j]? ≠ some 10) :
   iB (f + 1) (s.data.toList.drop a) out n = ([], n, 4) := by
 have hl : s.data.toList.length = s.size := (Lib.size_eq s).symm
 have h10 : (10 : UInt8) ∉ s.data.toList.drop a := by
   have := afF (L := s.data.toList) (a := a) (i := s.size) (by omega) h
   rwa [← hl, List.take_length] at this
 have hc : (Lib.cut (s.data.toList.drop a) [10]).2.2 ≠ true := fun e => by
   obtain ⟨w, r, _, e2⟩ := agG e
   rw [e2] at h10
   exact h10 (by simp)
 rw [lW, if_neg (by intro e; have := congrArg List.length e; rw [List.length_drop] at this; simp at this; omega), if_neg hc]
theorem XR {a f : Nat} {s : ByteArray} {out : List cB} {n : Int} (ha : s.size ≤ a) : iB f (s.data.toList.drop a) out n = (out, 0, 0) := by
 have hl : s.data.toList.length = s.size := (Lib.size_eq s).symm
 rw [List.drop_eq_nil_of_le (by omega)]
 cases f with
 | zero => rfl
 | succ f => rw [lW, if_pos rfl]
theorem abp (w : World) (s : ByteArray) (hs : s.size ≤ 4194304) :
   Calls Tryz.prog 35 #[.string s] w fun e w' => Only [] w w' ∧ ∃ (k a b c d : Int) (ok : Bool), e = .returned (.tuple #[.agg #[.int .i64 k, .int .i64 a, .int .i64 b, .int .i64 c, .int .i64 d], .bool ok]) ∧ (ok = true → eD s = some ⟨k, a, b, c, d⟩) ∧ (ok = false → eD s = none) :=
 (KI w s hs).mono (by
   rintro e w' ⟨o, ⟨k, a, b, c, d⟩, ok, rfl, h1, h2⟩
   exact ⟨o, k, a, b, c, d, ok, rfl, h1, h2⟩)
theorem ext_size (s : ByteArray) (a i : Nat) : (s.extract a i).size ≤ s.size := by
 rw [Lib.size_eq, ext_list, Lib.size_eq, List.length_drop, List.length_take]
 omega
set_option maxRecDepth 100000 in
set_option maxHeartbeats 4000000 in
theorem Nb (w : World) (s : ByteArray) (hs : s.size ≤ 9223372036854775807) :
   Calls Tryz.prog 15 #[.string s] w (Kr w (iZ s.data.toList)) := by
 by_cases hbig : 4194304 < s.size
 · have e : iZ s.data.toList = ([], 0, 2) := by
     unfold iZ; rw [if_pos (by rw [← Lib.size_eq]; exact hbig)]
   have hb' : (4194304 : Int) < (s.size : Int) := by omega
   rw [e]
   clear e
   go_enter Tryz.func15, Tryz.ntmps15
   go_wp2_with fail
   go_ret3
   exact ⟨Only.refl _ _, _, rfl, none, 0, rfl, by simp, by simp⟩
 · have e : iZ s.data.toList = iB (s.size + 1) s.data.toList [] 1 := by
     unfold iZ; rw [if_neg (by rw [← Lib.size_eq]; exact hbig), ← Lib.size_eq]
   obtain ⟨R, hR⟩ : ∃ R, R = iZ s.data.toList := ⟨_, rfl⟩
   rw [← hR] at e ⊢
   have RE := Lib.hid e
   have hs2 : s.size ≤ 4194304 := by omega
   have hb' : ¬ (4194304 : Int) < (s.size : Int) := by omega
   have hsL : s.data.toList.length = s.size := (Lib.size_eq s).symm
   have HSL := Lib.hid hsL
   clear hbig hR e hs hsL
   obtain ⟨i0, hi0, hz0, hz1, hz2⟩ := info_parts Yz
   go_enter Tryz.func15, Tryz.ntmps15
   go_wp2_with fail
   go_loopw [5, 6, 7, 8] (fun s5 s6 s7 s8 wr => ∃ (out : List cB) (n p i f : Nat) (ao : Option Addr) (cap : Nat), s5 = .slice ao out.length cap ∧ s6 = .int .i64 n ∧ s7 = .int .i64 p ∧ s8 = .int .i64 i ∧ p ≤ i ∧ i ≤ s.size ∧ n ≤ p ∧ out.length ≤ 65536 ∧ wr.ownsRow w.heap.size 27 5 (.slice ao out.length cap) out.length (mq out) ∧ s.size < f + p ∧ (R = iB f (s.data.toList.drop p) out ((n : Int) + 1) ∧ ∀ j, p ≤ j → j < i → s.data.toList[j]? ≠ some 10) ∧ Only [] w wr) (fun _ _ _ r _ => s.size - (intOf r).toNat)
   case atStart => exact ⟨[], 0, 0, 0, s.size + 1, none, 0, rfl, rfl, rfl, rfl, by omega, by omega, by omega, by simp, World.ownsRow_nil _ _ _ _, by omega, ⟨RE.out, fun j _ h => absurd h (Nat.not_lt_zero _)⟩, Only.refl _ _⟩
   case round =>
     obtain ⟨out, n, p, i, f, ao, cap, rfl, rfl, rfl, rfl, hp, hi, hn, hout, hown, hf, hR, ho⟩ := hrel
     obtain ⟨w3, hw3⟩ : ∃ w3, w3 = wr := ⟨_, rfl⟩
     subst hw3
     have OWN := Lib.hid hown
     have PR := Lib.hid hR
     have O3 := Lib.hid ho
     have HF := Lib.hid hf
     clear hown hR ho hf
     obtain ⟨m, hm⟩ : ∃ m, m = out.length := ⟨_, rfl⟩
     have HM := Lib.hid hm
     rw [← hm] at OWN hout ⊢
     clear hm
     by_cases hlt : i < s.size
     · have hlt' : (i : Int) < (s.size : Int) := by omega
       have aer : (0 : Int) ≤ (i : Int) := by omega
       have ani : (0 : Int) ≤ (p : Int) := by omega
       have anl : (p : Int) ≤ (i : Int) := by omega
       have hat : s.data.toList[i]? = some s[i] := by
         rw [List.getElem?_eq_getElem (by have := HSL.out; omega)]
         simp
         rfl
       have AT := Lib.hid hat
       clear hat
       by_cases h10 : s[i].toNat = 10
       · have aiI : (((s[i].toNat : Nat) : Int) == 10) = true := by rw [h10]; rfl
         have akO : (((s[i].toNat : Nat) : Int) != 10) = false := by rw [h10]; rfl
         have NL := Lib.hid (show s.data.toList[i]? = some 10 from by rw [AT.out]; exact congrArg some (UInt8.toNat_inj.1 h10))
         obtain ⟨f, rfl⟩ : ∃ f', f = f' + 1 := ⟨f - 1, by have := HF.out; omega⟩
         have PP : Hid (R = match eD (s.extract p i) with
           | none => ([], (n : Int) + 1, 4)
           | some e => if out.length = 65536 then ([], (n : Int) + 1, 2) else iB f (s.data.toList.drop (i + 1)) (out ++ [e]) ((n : Int) + 1 + 1)) := Lib.hid (by
             rw [PR.out.1]
             exact Zf hp NL.out PR.out.2)
         obtain ⟨X, hX⟩ : ∃ X, X = s.extract p i := ⟨_, rfl⟩
         have XS := Lib.hid (show X.size ≤ 4194304 from by rw [hX]; have := ext_size s p i; omega)
         rw [← hX] at PP
         have HX := Lib.hid hX
         have C1 := Lib.hid (abp w3 X XS.out)
         clear hX PR AT
         go_wp2_with fail
         rw [← HX.out]
         refine C1.out.mono ?_; rintro e w5 ⟨o5, k, a, b, c, d, ok, rfl, h1, h2⟩
         have O5 := Lib.hid (O3.out.bF o5)
         have H1 := Lib.hid h1
         have H2 := Lib.hid h2
         have OW5 := Lib.hid (oI OWN.out o5)
         clear o5 h1 h2
         cases ok with
         | false =>
           have FIN : Hid (R = ([], (n : Int) + 1, 4)) := Lib.hid (by rw [PP.out, H2.out rfl])
           go_wp2_with fail
           go_ret3
           exact ⟨O5.out.alloc _, .slice none 0 0, by rw [FIN.out]; rfl, by rw [FIN.out]; exact ⟨none, 0, rfl, by simp, by simp⟩⟩
         | true =>
           by_cases hfull : m = 65536
           · subst hfull
             have FIN : Hid (R = ([], (n : Int) + 1, 2)) := Lib.hid (by rw [PP.out, H1.out rfl]; simp only; rw [if_pos HM.out.symm])
             go_wp2_with fail
             go_ret3
             exact ⟨O5.out.alloc _, .slice none 0 0, by rw [FIN.out]; rfl, by rw [FIN.out]; exact ⟨none, 0, rfl, by simp, by simp⟩⟩
           · have hm2 : ((m : Int) == 65536) = false := by simp; omega
             have FIN : Hid (R = iB f (s.data.toList.drop (i + 1)) (out ++ [⟨k, a, b, c, d⟩]) ((n : Int) + 1 + 1)) := Lib.hid (by rw [PP.out, H1.out rfl]; simp only; rw [if_neg (by rw [← HM.out]; exact hfull)])
             have zG := Lib.hid (vI (w := (w5.alloc (.cells #[.int .i64 k, .int .i64 a, .int .i64 b, .int .i64 c, .int .i64 d] 27)).alloc (.cells #[.int .i64 k, .int .i64 a, .int .i64 b, .int .i64 c, .int .i64 d] 27)) (b := w5.heap.size + 1) (l := [.int .i64 k, .int .i64 a, .int .i64 b, .int .i64 c, .int .i64 d]) (T := 27) (f := (0, 0)) (by have h := blk_alloc_new (w5.alloc (.cells #[.int .i64 k, .int .i64 a, .int .i64 b, .int .i64 c, .int .i64 d] 27)) (.cells #[.int .i64 k, .int .i64 a, .int .i64 b, .int .i64 c, .int .i64 d] 27); simpa using h))
             have hsz := O5.out.size
             have hmm : m < 65536 := by omega
             clear hfull
             go_wp2_with (at_builtin; refine wpList_append_own _ rfl _ _ 22 rfl w.heap.size 27 i0 (.agg #[.int .i64 0, .int .i64 0, .int .i64 0, .int .i64 0, .int .i64 0]) 5 40 Tryz.underlying22 hi0 hz0 hz1 hz2 rfl (by decide) _ _ _ rfl ((OW5.out.alloc _).alloc _) ⟨w5.heap.size + 1, 0, none⟩ 1 1 [.int .i64 k, .int .i64 a, .int .i64 b, .int .i64 c, .int .i64 d] rfl rfl zG.out (by simp [Value.oneCell']) (by unfold maxLen; omega) (by omega) (by first | omega | (simp; omega)) ?_)
             intro v' w7 hown' hgrow _
             obtain ⟨oQ, jb, hv7⟩ : ∃ oQ jb, v' = .slice oQ (m + 1) jb := by
               rcases hown'.2 with ⟨_, h0⟩ | ⟨g, jb, cur, hv, _⟩
               · omega
               · exact ⟨_, _, hv⟩
             rw [hv7] at hown' ⊢
             clear hv7
             have Fg := Lib.hid hown'
             have O7 : Hid (Only [] w w7) := Lib.hid (((O5.out.alloc _).alloc _).grown hgrow (fun q hq => .inr (OW5.out.lt q hq).1))
             clear hown' hgrow
             go_wp2_with fail
             go_roundw
             case rel => exact ⟨out ++ [⟨k, a, b, c, d⟩], n + 1, i + 1, i + 1, f, oQ, jb, by rw [List.length_append, ← HM.out]; rfl, by go_num, by go_num, by go_num, by omega, by omega, by omega, by rw [List.length_append, ← HM.out]; simp; omega, by
               rw [Fh, List.length_append, ← HM.out]; exact Fg.out, by have := HF.out; omega, ⟨by rw [FIN.out]; rfl, fun j h1 h2 => absurd h2 (by omega)⟩, O7.out⟩
             case measure => simp [intOf]; omega
       · have aiI : (((s[i].toNat : Nat) : Int) == 10) = false := beq_eq_false_iff_ne.2 (fun e => h10 (by omega))
         have akO : (((s[i].toNat : Nat) : Int) != 10) = true := by unfold bne; rw [aiI]; rfl
         have NX := Lib.hid (show ∀ j, p ≤ j → j < i + 1 → s.data.toList[j]? ≠ some 10 from fun j h1 h2 => by
           by_cases hj : j = i
           · rw [hj, AT.out]
             intro e
             apply h10
             rw [Option.some.inj e]
             rfl
           · exact PR.out.2 j h1 (by omega))
         clear AT
         go_wp2_with fail
         go_roundw
         case rel => exact ⟨out, n, p, i + 1, f, ao, cap, by rw [← HM.out], rfl, rfl, by go_num, by omega, by omega, hn, by rw [← HM.out]; exact hout, by rw [← HM.out]; exact OWN.out, HF.out, ⟨PR.out.1, NX.out⟩, O3.out⟩
         case measure => simp [intOf]; omega
     · have hlt' : ¬ (i : Int) < (s.size : Int) := by omega
       have hii : i = s.size := by omega
       subst hii
       by_cases hps : p < s.size
       · have xN : (p : Int) < (s.size : Int) := by omega
         obtain ⟨f, rfl⟩ : ∃ f', f = f' + 1 := ⟨f - 1, by have := HF.out; omega⟩
         have FIN : Hid (R = ([], (n : Int) + 1, 4)) := Lib.hid (by rw [PR.out.1]; exact Vg hps PR.out.2)
         go_wp2_with fail
         go_ret3
         exact ⟨O3.out, .slice none 0 0, by rw [FIN.out]; rfl, by rw [FIN.out]; exact ⟨none, 0, rfl, by simp, by simp⟩⟩
       · have xN : ¬ (p : Int) < (s.size : Int) := by omega
         have FIN : Hid (R = (out, 0, 0)) := Lib.hid (by rw [PR.out.1]; exact XR (by omega))
         go_wp2_with fail
         go_ret3
         exact ⟨O3.out, .slice ao m cap, by rw [FIN.out]; rfl, by rw [FIN.out]; exact Ut (by rw [← HM.out]; exact OWN.out)⟩
end
section
open Go.RowKit
set_option maxRecDepth 100000 in
set_option maxHeartbeats 4000000 in
theorem Dm (w : World) (hL : jc w) (text : ByteArray) (htx : text.size ≤ maxLen) (ao : Option Addr) (nb cb : Nat) (hb : BytesAt w ao nb) (hnb : nb ≤ 9223372036854775807) (sa : Option Addr) (ns cs : Nat) (hs : BytesAt w sa ns) (hns : ns ≤ 9223372036854775807)
   (vz : Value) (zs : List Int) (hz : Ns w vz zs) (hnz : zs.length ≤ 9223372036854775807) :
   Calls Tryz.prog 4 #[.string text, .slice ao nb cb, .slice sa ns cs, vz] w fun e w' => e = .returned (.bool true) ∧ Only [] w w' := by
 have HL := Lib.hid hL
 have HB := Lib.hid (And.intro hb hs)
 have HZ := Lib.hid hz
 obtain ⟨az, cz, rfl, -, -, hcz⟩ := hz
 obtain ⟨mz, hmz⟩ : ∃ mz, mz = zs.length := ⟨_, rfl⟩
 have HM := Lib.hid hmz
 rw [← hmz] at hnz ⊢
 obtain ⟨W1, hW1⟩ : ∃ W1, W1 = w.alloc (.cells #[.slice az mz cz] 29) := ⟨_, rfl⟩
 obtain ⟨zb, hzb⟩ : ∃ zb, zb = w.heap.size := ⟨_, rfl⟩
 have SH := Lib.hid (abh W1 ao nb cb hnb zb 29 (0, 0) [(az, mz, cz)] 1 rfl (by decide) (by rw [hW1, hzb]; exact blk_alloc_new _ _) (fun x hx => by simp at hx; subst hx; exact hnz))
 have O1 := Lib.hid (show Only [] w W1 from by rw [hW1]; exact (Only.refl _ _).alloc _)
 have HW := Lib.hid (And.intro hW1 hzb)
 clear hL hb hs hmz hcz hW1 hzb
 have e2 : (decide (∀ x ∈ [(az, mz, cz)], x.2.1 ≤ 400) && decide (nb ≤ 400)) = (decide (mz ≤ 400) && decide (nb ≤ 400)) := by simp
 rw [e2] at SH
 clear e2
 by_cases anh : 600 < text.size
 · have h3 : (600 : Int) < (text.size : Int) := by omega
   go_enter Tryz.func4, Tryz.ntmps4
   go_wp2_with fail
   go_ret
   exact ⟨rfl, Only.refl _ _⟩
 have h3 : ¬ (600 : Int) < (text.size : Int) := by omega
 by_cases ae0 : mz ≤ 400 ∧ nb ≤ 400
 rotate_left
 · have e3 : (decide (mz ≤ 400) && decide (nb ≤ 400)) = false := by
     by_cases h1 : mz ≤ 400
     · have : ¬ nb ≤ 400 := fun h => ae0 ⟨h1, h⟩
       simp [this]
     · simp [h1]
   rw [e3] at SH
   clear e3
   go_enter Tryz.func4, Tryz.ntmps4
   go_wp2_with fail
   rw [← HW.out.1, ← HW.out.2]
   refine SH.out.mono ?_; rintro e w' ⟨rfl, rfl⟩
   go_wp2_with fail
   go_ret
   exact ⟨rfl, O1.out⟩
 rw [decide_eq_true ae0.1, decide_eq_true ae0.2] at SH
 by_cases ano : 400 < ns
 · have h6 : (400 : Int) < (ns : Int) := by omega
   go_enter Tryz.func4, Tryz.ntmps4
   go_wp2_with fail
   rw [← HW.out.1, ← HW.out.2]
   refine SH.out.mono ?_; rintro e w' ⟨rfl, rfl⟩
   go_wp2_with fail
   go_ret
   exact ⟨rfl, O1.out⟩
 have h6 : ¬ (400 : Int) < (ns : Int) := by omega
 go_enter Tryz.func4, Tryz.ntmps4
 go_wp2_with fail
 rw [← HW.out.1, ← HW.out.2]
 refine SH.out.mono ?_; rintro e w' ⟨rfl, rfl⟩
 go_wp2_with fail
 refine (Zn W1 ao sa nb cb ns cs (HB.out.1.only O1.out) (HB.out.2.only O1.out) (by omega) (by omega)).mono ?_
 rintro e w1 ⟨v1, l1, rfl, hE1, hl1, o1⟩
 have O2 := Lib.hid (O1.out.bF o1)
 have HE1 := Lib.hid hE1
 have FM := KP w1 v1 l1 hE1 (by omega)
 change Calls _ _ _ _ (fun e w' => e = .returned (.tuple #[.string (bs (iY l1).1), .int .i64 (iY l1).2]) ∧ Only [] w1 w') at FM
 obtain ⟨S, hS⟩ : ∃ S, S = bs (iY l1).1 := ⟨_, rfl⟩
 obtain ⟨c, hc⟩ : ∃ c, c = (iY l1).2 := ⟨_, rfl⟩
 have HS := Lib.hid (show S.size ≤ 1507328 from by rw [hS, agV]; exact Xv l1)
 rw [← hS, ← hc] at FM
 have FMH := Lib.hid FM
 clear FM hS hc hE1 o1 hl1
 go_wp2_with fail
 refine FMH.out.mono ?_; rintro e w2 ⟨rfl, o2⟩
 have O3 := Lib.hid (O2.out.bF o2)
 clear o2
 go_wp2_with fail
 have CH := Lib.hid (SE w2 S (.slice az mz cz) zs (by rw [HM.out]; exact HZ.out.keep O3.out) (by have := HS.out; omega) (by have := HM.out; omega))
 refine CH.out.mono ?_
 rintro e w3 ⟨t, rfl, ht, o3⟩
 have O4 := Lib.hid (O3.out.bF o3)
 have HT := Lib.hid (show t.size ≤ 9223372036854775807 from by have := HS.out; omega)
 clear o3 ht CH
 obtain ⟨lb, hlb⟩ : ∃ lb, lb = w3.heap.size := ⟨_, rfl⟩
 obtain ⟨W4, rG⟩ : ∃ W4, W4 = w3.alloc (.cells #[.string text, .string t, .string S] 9) := ⟨_, rfl⟩
 have HW4 := Lib.hid (And.intro rG hlb)
 have LB := Lib.hid (show W4.heap[lb]? = some (.cells #[.string text, .string t, .string S] 9 (0, 0)) from by rw [rG, hlb]; exact blk_alloc_new _ _)
 have O5 := Lib.hid (show Only [] w W4 from by rw [rG]; exact O4.out.alloc _)
 have L4 := Lib.hid (HL.out.jJ O5.out)
 have TH := Lib.hid (show ∀ i, i < 3 → ∀ w', Only [] W4 w' → ∃ u : ByteArray, w'.cell? ⟨lb, i, none⟩ = some (.string u) ∧ u.size ≤ 9223372036854775807 from fun i hi w' o => by
   have hB := o.keep LB.out (by simp)
   rcases (show i = 0 ∨ i = 1 ∨ i = 2 by omega) with rfl | rfl | rfl
   · exact ⟨text, aa hB 0, by omega⟩
   · exact ⟨t, aa hB 1, HT.out⟩
   · exact ⟨S, aa hB 2, by have := HS.out; omega⟩)
 clear hlb rG
 go_wp2_with fail
 rw [← HW4.out.1, ← HW4.out.2]
 go_loopw [12] (fun s12 wr => ∃ i : Nat, s12 = .int .i64 i ∧ i ≤ 3 ∧ Only [] W4 wr) (fun r _ => 3 - (intOf r).toNat)
 case atStart => exact ⟨0, rfl, by omega, Only.refl _ _⟩
 case round =>
   obtain ⟨i, rfl, hi, ho⟩ := hrel
   obtain ⟨w5, dZ⟩ : ∃ w5, w5 = wr := ⟨_, rfl⟩
   subst dZ
   have OR := Lib.hid ho
   by_cases hi3 : i < 3
   · have akZ : (i : Int) < 3 := by omega
     have aer : (0 : Int) ≤ (i : Int) := by omega
     obtain ⟨u, hc0, hu⟩ := TH.out i hi3 w5 ho
     have hbl := lt_of_cell hc0
     obtain ⟨l2, n2, f2, hP⟩ : ∃ l2 n2 f2, iZ u.data.toList = (l2, n2, f2) := ⟨_, _, _, rfl⟩
     have PA := JP w5 (L4.out.jJ ho) u hu
     rw [hP] at PA
     have PAH := Lib.hid PA
     have PB := fun w' => Nb w' u hu
     rw [hP] at PB
     have PBH := Lib.hid PB
     have CK := Lib.hid (fun w' (o : Only [] w5 w') => o.keepCell hc0 (by simp))
     have HL2 := Lib.hid (show l2.length ≤ 9223372036854775807 from by
       have : ∀ f tx out n, (out : List cB).length ≤ 65536 → (iB f tx out n).1.length ≤ 65536 := by
         intro f
         induction f with
         | zero => intro tx out n h; exact h
         | succ f ih =>
           intro tx out n h
           rw [lW]
           split
           · exact h
           · split
             · split
               · simp
               · split
                 · simp
                 · refine ih _ _ _ ?_
                   rw [List.length_append]
                   simp
                   omega
             · simp
       have h2 := this (u.data.toList.length + 1) u.data.toList [] 1 (by simp)
       unfold iZ at hP
       split at hP
       · cases hP; simp
       · rw [hP] at h2; simp only at h2; omega)
     clear PA PB hP ho
     go_wp2_with fail
     refine PAH.out.mono ?_
     rintro e w6 ⟨o6, v6, rfl, hE6⟩
     have H6 := Lib.hid (And.intro hE6 o6)
     have c6 := CK.out w6 o6
     have hb6 := lt_of_cell c6
     clear hE6 o6 hc0 hbl
     go_wp2_with fail
     refine (PBH.out w6).mono ?_
     rintro e w7 ⟨o7, v7, rfl, hE7⟩
     have O7 := Lib.hid (OR.out.bF (H6.out.2.bF o7))
     have H7 := Lib.hid (And.intro (H6.out.1.keep o7) hE7)
     clear hE7 o7 c6 hb6
     go_wp2_with fail
     refine (abV _ (L4.out.jJ O7.out)).mono ?_; rintro e w8 ⟨rfl, o8⟩
     have O8 := Lib.hid (O7.out.bF o8)
     have H8 := Lib.hid (And.intro (H7.out.1.keep o8) (H7.out.2.keep o8))
     clear o8
     go_wp2_with fail
     refine (RU w8 _ _ l2 H8.out.1 H8.out.2 HL2.out).mono ?_
     rintro e w9 ⟨rfl, o9⟩
     have O9 := Lib.hid (O8.out.bF o9)
     clear o9
     go_wp2_with fail
     go_roundw
     case rel => exact ⟨i + 1, by go_num, by omega, O9.out⟩
     case measure => simp [intOf]; omega
   · have akZ : ¬ (i : Int) < 3 := by omega
     go_wp2_with fail
     go_ret
     exact ⟨rfl, O5.out.bF OR.out⟩
end
end Go.Proofs.YtncnepmgmphanaaGreatDoor
