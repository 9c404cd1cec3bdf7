/- The events of a text, walked. No condition beside the library's variables. -/
import Derived.Test.YtncnepmgmphanaaGreatDoorMg24
import Derived.Test.YtncnepmgmphanaaGreatDoorMg01
import Derived.Laws.BytesArg
import Derived.Lib.ItoaNum
import Derived.Deep.LoopGhost
import Derived.Test.YtncnepmgmphanaaGreatDoorMg22
import Derived.Deep.RegionHeld3
set_option linter.unusedVariables false
set_option linter.unusedSimpArgs false
set_option linter.unusedSectionVars false
namespace Go.Proofs.YtncnepmgmphanaaGreatDoor
section
open Go.RowKit
theorem Yz : (Tryz.prog.info? 27).map (fun i => (i.zero, i.size, i.bytes)) = some (some (.agg #[.int .i64 0, .int .i64 0, .int .i64 0, .int .i64 0, .int .i64 0]), 5, 40) := by kernel_rfl
theorem vI {w : World} {b : Nat} {l : List Value} {T : TypeId} {f : Nat × Nat} (h : w.heap[b]? = some (.cells l.toArray T f)) : ∀ j u, l[j]? = some u → w.cell? ((⟨b, 0, none⟩ : Addr).add j) = some u := by
 intro j u hu
 rw [Go.WideShapes.add_plain, Nat.zero_add, aa h]
 simpa using hu
def acb : Value → Nat
 | .string b => b.size
 | _ => 0
theorem oI {w w' : World} {B : Nat} {T : TypeId} {sz : Nat} {v : Value} {n : Nat} {xs : List Value} (h : w.ownsRow B T sz v n xs) (o : Only [] w w') : w'.ownsRow B T sz v n xs :=
 h.kept (row := none) ⟨o.os, o.tape, o.output, o.size, fun k hk _ => o.block k hk (by simp)⟩ (by cases v.ownBlock <;> simp)
theorem agY (w : World) (hL : jc w) (s : ByteArray) (hs : s.size < 4294967281) :
   Calls Tryz.prog 34 #[.string s] w fun e w' => Only [] w w' ∧ ∃ (k a b c d : Int) (ok : Bool), e = .returned (.tuple #[.agg #[.int .i64 k, .int .i64 a, .int .i64 b, .int .i64 c, .int .i64 d], .bool ok]) ∧ (ok = true → eD s = some ⟨k, a, b, c, d⟩) ∧ (ok = false → eD s = none) :=
 (aen w hL s hs).mono (by
   rintro e w' ⟨o, ⟨k, a, b, c, d⟩, ok, rfl, h1, h2⟩
   exact ⟨o, k, a, b, c, d, ok, rfl, h1, h2⟩)
def Kr (w : World) (r : List cB × Int × Int) (e : Ending) (w' : World) : Prop :=
 Only [] w w' ∧ ∃ v, e = .returned (.tuple #[v, .int .i64 r.2.1, .int .i64 r.2.2]) ∧ EL w' v r.1
set_option maxRecDepth 100000 in
set_option maxHeartbeats 4000000 in
theorem JP (w : World) (hL : jc w) (s : ByteArray) (hs : s.size ≤ 9223372036854775807) :
   Calls Tryz.prog 14 #[.string s] w (Kr w (iZ s.data.toList)) := by
 by_cases hbig : 4194304 < s.size
 · have e : iZ s.data.toList = ([], 0, 2) := by
     unfold iZ; rw [if_pos (by rw [← Lib.size_eq]; exact hbig)]
   rw [e]
   clear e
   go_enter Tryz.func14, Tryz.ntmps14
   go_wp2_with fail
   go_ret3
   exact ⟨Only.refl _ _, _, rfl, none, 0, rfl, by simp, by simp⟩
 · have e : iZ s.data.toList = iB (s.size + 1) s.data.toList [] 1 := by
     unfold iZ; rw [if_neg (by rw [← Lib.size_eq]; exact hbig), ← Lib.size_eq]
   obtain ⟨R, hR⟩ : ∃ R, R = iZ s.data.toList := ⟨_, rfl⟩
   rw [← hR] at e ⊢
   have RE := Lib.hid e
   have HL := Lib.hid hL
   have hs2 : s.size ≤ 4194304 := by omega
   clear hbig hR e hL hs
   obtain ⟨i0, hi0, hz0, hz1, hz2⟩ := info_parts Yz
   go_enter Tryz.func14, Tryz.ntmps14
   go_wp2_with fail
   go_loopw [0, 5, 6] (fun s0 s5 s6 wr => ∃ (tx : ByteArray) (out : List cB) (n f : Nat) (ao : Option Addr) (cap : Nat), s5 = .slice ao out.length cap ∧ s0 = .string tx ∧ tx.size ≤ 4194304 ∧ s6 = .int .i64 n ∧ n ≤ 4194304 + 1 - tx.size ∧ out.length ≤ 65536 ∧ wr.ownsRow w.heap.size 27 5 (.slice ao out.length cap) out.length (mq out) ∧ tx.size < f ∧ R = iB f tx.data.toList out n ∧ Only [] w wr) (fun s0 _ _ _ => acb s0)
   case atStart => exact ⟨s, [], 1, s.size + 1, none, 0, rfl, rfl, hs2, rfl, by omega, by simp, World.ownsRow_nil _ _ _ _, by omega, RE.out, Only.refl _ _⟩
   case round =>
     obtain ⟨tx, out, n, f, ao, cap, rfl, rfl, htx, rfl, hn, hout, hown, hf, hR, ho⟩ := hrel
     obtain ⟨w3, hw3⟩ : ∃ w3, w3 = wr := ⟨_, rfl⟩
     subst hw3
     have OWN := Lib.hid hown
     have PR := Lib.hid hR
     have O3 := Lib.hid ho
     have HF := Lib.hid hf
     clear hown hR ho
     obtain ⟨m, hm⟩ : ∃ m, m = out.length := ⟨_, rfl⟩
     have HM := Lib.hid hm
     rw [← hm] at OWN hout ⊢
     clear hm
     by_cases hemp : tx.data.toList = []
     · have hte : tx.toList = [] := by rw [Lib.toList_data]; exact hemp
       have FIN : Hid (R = (out, 0, 0)) := Lib.hid (by
         rw [PR.out, hemp]
         cases f with
         | zero => rfl
         | succ f => unfold iB; rw [if_pos rfl])
       clear hemp hf
       go_wp2_with fail
       go_ret3
       exact ⟨O3.out, .slice ao m cap, by rw [FIN.out]; rfl, by rw [FIN.out]; exact Ut (by rw [← HM.out]; exact OWN.out)⟩
     · have hte : tx.toList.isEmpty = false := by rw [Lib.toList_data]; cases h : tx.data.toList with
         | nil => exact absurd h hemp
         | cons a l => rfl
       have anu : (!tx.toList.isEmpty) = true := by rw [hte]; rfl
       obtain ⟨f, rfl⟩ : ∃ f', f = f' + 1 := ⟨f - 1, by omega⟩
       have hcl := acK tx.data.toList
       have hcr := fun h => agA (tx := tx.data.toList) h
       have CT := agR w3 (HL.out.jJ O3.out) tx ⟨#[10]⟩ (by omega)
       have hsep : (⟨#[10]⟩ : ByteArray).data.toList = [10] := rfl
       rw [hsep] at CT
       obtain ⟨line, Lu⟩ : ∃ x, x = (Lib.cut tx.data.toList [10]).1 := ⟨_, rfl⟩
       obtain ⟨rest, hrest⟩ : ∃ x, x = (Lib.cut tx.data.toList [10]).2.1 := ⟨_, rfl⟩
       obtain ⟨wh, hwh⟩ : ∃ x, x = (Lib.cut tx.data.toList [10]).2.2 := ⟨_, rfl⟩
       have P1 : R = if wh = true then match eD ⟨line.toArray⟩ with
           | none => ([], (n : Int), 4)
           | some e => if out.length = 65536 then ([], (n : Int), 2) else iB f rest (out ++ [e]) ((n : Int) + 1)
         else ([], (n : Int), 4) := by
         rw [PR.out, lW, if_neg hemp, Lu, hrest, hwh]; try rfl
       rw [← Lu, ← hrest, ← hwh] at CT
       rw [← Lu, ← Lib.size_eq] at hcl
       rw [← hrest, ← hwh, ← Lib.size_eq] at hcr
       have HCR := Lib.hid hcr
       have PP := Lib.hid P1
       have CTH := Lib.hid CT
       have hll : (⟨line.toArray⟩ : ByteArray).size < 4294967281 := by rw [gG]; omega
       have HLL := Lib.hid hll
       clear Lu hrest hwh hsep hcr P1 CT hemp hf hcl hll PR
       go_wp2_with fail
       refine CTH.out.mono ?_; rintro e w4 ⟨rfl, o4⟩
       have O4 := Lib.hid (O3.out.bF o4)
       have J9 := Lib.hid o4
       have RA := Lib.hid (agY w4 (HL.out.jJ O4.out) ⟨line.toArray⟩ HLL.out)
       clear o4
       go_wp2_with fail
       refine RA.out.mono ?_; rintro e w5 ⟨o5, k, a, b, c, d, ok, rfl, h1, h2⟩
       have O5 := Lib.hid (O4.out.bF o5)
       have H1 := Lib.hid h1
       have H2 := Lib.hid h2
       have OW5 := Lib.hid (oI (oI OWN.out J9.out) o5)
       clear o5 h1 h2
       cases wh with
       | false =>
         have FIN : Hid (R = ([], (n : Int), 4)) := Lib.hid (by rw [PP.out]; rfl)
         go_wp2_with fail
         go_ret3
         exact ⟨O5.out.alloc _, .slice none 0 0, by rw [FIN.out]; rfl, by rw [FIN.out]; exact ⟨none, 0, rfl, by simp, by simp⟩⟩
       | true =>
         cases ok with
         | false =>
           have FIN : Hid (R = ([], (n : Int), 4)) := Lib.hid (by rw [PP.out, if_pos rfl, H2.out rfl])
           go_wp2_with fail
           go_ret3
           exact ⟨O5.out.alloc _, .slice none 0 0, by rw [FIN.out]; rfl, by rw [FIN.out]; exact ⟨none, 0, rfl, by simp, by simp⟩⟩
         | true =>
           by_cases hfull : m = 65536
           · subst hfull
             have FIN : Hid (R = ([], (n : Int), 2)) := Lib.hid (by rw [PP.out, if_pos rfl, H1.out rfl]; simp only; rw [if_pos HM.out.symm])
             go_wp2_with fail
             go_ret3
             exact ⟨O5.out.alloc _, .slice none 0 0, by rw [FIN.out]; rfl, by rw [FIN.out]; exact ⟨none, 0, rfl, by simp, by simp⟩⟩
           · have hm2 : ((m : Int) == 65536) = false := by simp; omega
             have FIN : Hid (R = iB f rest (out ++ [⟨k, a, b, c, d⟩]) ((n : Int) + 1)) := Lib.hid (by rw [PP.out, if_pos rfl, H1.out rfl]; simp only; rw [if_neg (by rw [← HM.out]; exact hfull)])
             have LT := Lib.hid (HCR.out rfl).1
             have zG := Lib.hid (vI (w := (w5.alloc (.cells #[.int .i64 k, .int .i64 a, .int .i64 b, .int .i64 c, .int .i64 d] 27)).alloc (.cells #[.int .i64 k, .int .i64 a, .int .i64 b, .int .i64 c, .int .i64 d] 27)) (b := w5.heap.size + 1) (l := [.int .i64 k, .int .i64 a, .int .i64 b, .int .i64 c, .int .i64 d]) (T := 27) (f := (0, 0)) (by have h := blk_alloc_new (w5.alloc (.cells #[.int .i64 k, .int .i64 a, .int .i64 b, .int .i64 c, .int .i64 d] 27)) (.cells #[.int .i64 k, .int .i64 a, .int .i64 b, .int .i64 c, .int .i64 d] 27); simpa using h))
             have hsz := O5.out.size
             have hmm : m < 65536 := by omega
             clear hfull
             go_wp2_with (at_builtin; refine wpList_append_own _ rfl _ _ 22 rfl w.heap.size 27 i0 (.agg #[.int .i64 0, .int .i64 0, .int .i64 0, .int .i64 0, .int .i64 0]) 5 40 Tryz.underlying22 hi0 hz0 hz1 hz2 rfl (by decide) _ _ _ rfl ((OW5.out.alloc _).alloc _) ⟨w5.heap.size + 1, 0, none⟩ 1 1 [.int .i64 k, .int .i64 a, .int .i64 b, .int .i64 c, .int .i64 d] rfl rfl zG.out (by simp [Value.oneCell']) (by unfold maxLen; omega) (by omega) (by first | omega | (simp; omega)) ?_)
             intro v' w7 hown' hgrow _
             obtain ⟨oQ, jb, hv7⟩ : ∃ oQ jb, v' = .slice oQ (m + 1) jb := by
               rcases hown'.2 with ⟨_, h0⟩ | ⟨g, jb, cur, hv, _⟩
               · omega
               · exact ⟨_, _, hv⟩
             rw [hv7] at hown' ⊢
             clear hv7
             have Fg := Lib.hid hown'
             have O7 : Hid (Only [] w w7) := Lib.hid (((O5.out.alloc _).alloc _).grown hgrow (fun q hq => .inr (OW5.out.lt q hq).1))
             clear hown' hgrow
             go_wp2_with fail
             go_roundw
             case rel => exact ⟨⟨rest.toArray⟩, out ++ [⟨k, a, b, c, d⟩], n + 1, f, oQ, jb, by rw [List.length_append, ← HM.out]; rfl, rfl, by rw [gG]; have := LT.out; omega, by go_num, by rw [gG]; have := LT.out; omega, by rw [List.length_append, ← HM.out]; simp; omega, by
               rw [Fh, List.length_append, ← HM.out]; exact Fg.out, by rw [gG]; have := LT.out; have := HF.out; omega, by rw [FIN.out]; rfl, O7.out⟩
             case measure => simp only [acb]; rw [gG]; exact LT.out
end
section
open Go.RowKit
theorem acu : iY [⟨5, 0, 3, 0, 0⟩] = ([115, 116, 97, 114, 116, 32, 48, 32, 51, 10], 0) := by
 have h1 : bW ⟨5, 0, 3, 0, 0⟩ = true := by decide
 have e0 : Lib.itoa 0 = [48] := by unfold Lib.itoa; rw [if_neg (by omega), Lib.decDigits]; rfl
 have e3 : Lib.itoa 3 = [51] := by unfold Lib.itoa; rw [if_neg (by omega), Lib.decDigits]; rfl
 have hl : jd ⟨5, 0, 3, 0, 0⟩ = [115, 116, 97, 114, 116, 32, 48, 32, 51, 10] := by
   have hf : aI 4 = ⟨[115, 116, 97, 114, 116], true, false, false⟩ := rfl
   simp [jd, jG, MX, gB, jo, hf, e0, e3]
 simp [iY, h1, jr, hl]
theorem Sn : iZ [112, 97, 114, 107, 32, 49] = ([], 1, 4) := by
 have hc : (Lib.cut [112, 97, 114, 107, 32, 49] [10]).2.2 = false := by decide
 unfold iZ
 rw [if_neg (by decide), lW, if_neg (by decide), hc]
 rfl
set_option maxRecDepth 100000 in
set_option maxHeartbeats 1000000 in
theorem abV (w : World) (hL : jc w) : Calls Tryz.prog 12 #[] w fun e w' => e = .returned (.bool true) ∧ Only [] w w' := by
 obtain ⟨W0, hW0⟩ : ∃ W0, W0 = w.alloc (.cells #[.int .i64 5, .int .i64 0, .int .i64 3, .int .i64 0, .int .i64 0] 27) := ⟨_, rfl⟩
 obtain ⟨b, hb⟩ : ∃ b, b = w.heap.size := ⟨_, rfl⟩
 have hB : W0.heap[b]? = some (.cells #[.int .i64 5, .int .i64 0, .int .i64 3, .int .i64 0, .int .i64 0] 27 (0, 0)) := by rw [hW0, hb]; exact blk_alloc_new _ _
 have O0 : Only [] w W0 := by rw [hW0]; exact (Only.refl _ _).alloc _
 have EL0 : EL W0 (.slice (some ⟨b, 0, none⟩) 1 1) [⟨5, 0, 3, 0, 0⟩] := ⟨_, 1, rfl, Nat.le_refl _, fun _ => ⟨b, 0, rfl, fun i hi => by
   obtain rfl : i = 0 := by simp at hi; omega
   exact ⟨aa hB 0, aa hB 1, aa hB 2, aa hB 3, aa hB 4⟩⟩⟩
 have FA := VU W0 (hL.jJ O0) _ _ EL0 (by simp)
 rw [acu] at FA
 simp only at FA
 have FAH := Lib.hid FA
 have HW0 := Lib.hid hW0
 have HB := Lib.hid hb
 have O0H := Lib.hid O0
 have HL := Lib.hid hL
 clear hW0 hb hB O0 EL0 FA hL
 go_enter Tryz.func12, Tryz.ntmps12
 go_wp2_with fail
 rw [← HW0.out, ← HB.out]
 refine FAH.out.mono ?_; rintro e w1 ⟨rfl, o1⟩
 have O1 := Lib.hid (O0H.out.bF o1)
 have PA := JP w1 (HL.out.jJ O1.out) ⟨#[112, 97, 114, 107, 32, 49]⟩ (by decide)
 rw [show (⟨#[112, 97, 114, 107, 32, 49]⟩ : ByteArray).data.toList = [112, 97, 114, 107, 32, 49] from rfl, Sn] at PA
 have PAH := Lib.hid PA
 clear o1 PA
 go_wp2_with fail
 refine PAH.out.mono ?_; rintro e w2 ⟨o2, v, rfl, hv⟩
 have O2 := Lib.hid (O1.out.bF o2)
 clear o2 hv
 go_wp2_with fail
 go_ret
 exact ⟨by rfl, O2.out⟩
end
section
open Go.RowKit
def Ij : Nat → Nat → List UInt8 → List UInt8
 | 0, _, s => s
 | f + 1, n, s => if n = 0 then s else Ij f (n / 10) (UInt8.ofNat (48 + n % 10) :: s)
def MH (n : Nat) : List UInt8 := Ij 4 (n / 10) [UInt8.ofNat (48 + n % 10)]
theorem YS : ∀ n : Nat, n ≤ 256 → MH n = Lib.itoa (n : Int) := by
 intro n hn
 have h : (List.range 257).all (fun n => MH n == Lib.itoa (n : Int)) = true := by kernel_rfl
 have := List.all_eq_true.1 h n (List.mem_range.2 (by omega))
 simpa using this
theorem ai0 {w : World} {b : Nat} {d : Int} (h : w.heap[b]? = some (.cells #[.int .u8 d] 5 (0, 0))) : (convert 23 9 (.slice (some ⟨b, 0, none⟩) 1 1)).run Tryz.prog w = .ok (.string (strOfNums [d])) w :=
 run_convert_bytes_arg (P := Tryz.prog) w 23 5 Tryz.underlying23 Tryz.underlying5 b 0 1 1 [d] rfl (fun i hi => by
   obtain rfl : i = 0 := by omega
   rw [aa h]
   rfl) 9 Tryz.underlying9
theorem ah8 (n : Nat) : strOfNums [48 + ((n % 10 : Nat) : Int)] = ⟨#[UInt8.ofNat (48 + n % 10)]⟩ := by
 simp only [strOfNums, List.map_cons, List.map_nil]
 congr 3
def bs (l : List UInt8) : ByteArray := ⟨l.toArray⟩
theorem abF (a b : List UInt8) : bs a ++ bs b = bs (a ++ b) := by
 apply ByteArray.ext
 simp [bs, ByteArray.data_append]
set_option maxRecDepth 100000 in
set_option maxHeartbeats 4000000 in
theorem nJ (w : World) (n : Nat) (hn : n ≤ 256) : Calls Tryz.prog 47 #[.int .i64 n] w fun e w' => e = .returned (.string ⟨(Lib.itoa (n : Int)).toArray⟩) ∧ Only [] w w' := by
 rw [← YS n hn]
 have CV : ∀ (w : World) (d : Int), (convert 23 9 (.slice (some ⟨w.heap.size, 0, none⟩) 1 1)).run Tryz.prog (w.alloc (.cells #[.int .u8 d] 5)) = .ok (.string (strOfNums [d])) (w.alloc (.cells #[.int .u8 d] 5)) := fun w d => ai0 (blk_alloc_new _ _)
 have hm : (n : Int).tmod 10 = ((n % 10 : Nat) : Int) := by rw [Int.tmod_eq_emod_of_nonneg (by omega)]; omega
 have hd : (n : Int).tdiv 10 = ((n / 10 : Nat) : Int) := by rw [Int.tdiv_eq_ediv_of_nonneg (by omega)]; omega
 go_enter Tryz.func47, Tryz.ntmps47
 go_wp2_with fail
 have st : strOfNums [48 + (n : Int) % 10] = bs [UInt8.ofNat (48 + n % 10)] := by
   have := ah8 n
   rw [Int.natCast_emod] at this
   exact this
 rw [st]
 have hq : (n : Int) / 10 = ((n / 10 : Nat) : Int) := by omega
 rw [hq]
 have START := Lib.hid (show ∃ (m f : Nat) (s : List UInt8), (Value.int .i64 ((n / 10 : Nat) : Int) = .int .i64 m) ∧ Value.string (bs [UInt8.ofNat (48 + n % 10)]) = .string (bs s) ∧ m + 1 = n / 10 + 1 ∧ Ij f m s = MH n ∧ s.length ≤ 5 - f ∧ ((f = 4 ∧ m ≤ 25) ∨ (f = 3 ∧ m ≤ 2) ∨ (f = 2 ∧ m = 0)) ∧ Only [] w (w.alloc (.cells #[.int .u8 (48 + (n : Int) % 10)] 5)) from ⟨n / 10, 4, _, rfl, rfl, rfl, rfl, by simp, .inl ⟨rfl, by omega⟩, (Only.refl _ _).alloc _⟩)
 clear hm hd st hq
 go_loopg [0, 3] (n / 10 + 1) (fun g s0 s3 wr => ∃ (m f : Nat) (s : List UInt8), s0 = .int .i64 m ∧ s3 = .string (bs s) ∧ m + 1 = g ∧ Ij f m s = MH n ∧ s.length ≤ 5 - f ∧ ((f = 4 ∧ m ≤ 25) ∨ (f = 3 ∧ m ≤ 2) ∨ (f = 2 ∧ m = 0)) ∧ Only [] w wr)
 case atStart => exact START.out
 case round =>
   clear START
   obtain ⟨m, f, s, rfl, rfl, hg, hd, hsl, hf, ho⟩ := hrel
   have hs5 : (bs s).size ≤ 5 := by show s.toArray.size ≤ 5; simp; omega
   have HF := Lib.hid (And.intro hd (And.intro hf (And.intro ho hsl)))
   have ang : m ≤ 25 := by omega
   clear hd hf ho hsl
   by_cases hm0 : 0 < m
   · have alb : (0 : Int) < (m : Int) := by omega
     have hm : (m : Int).tmod 10 = ((m % 10 : Nat) : Int) := by rw [Int.tmod_eq_emod_of_nonneg (by omega)]; omega
     have hd : (m : Int).tdiv 10 = ((m / 10 : Nat) : Int) := by rw [Int.tdiv_eq_ediv_of_nonneg (by omega)]; omega
     have z1 : (strOfNums [48 + (m : Int) % 10]).size = 1 := strOfNums_size _
     go_wp2_with fail
     have st : strOfNums [48 + (m : Int) % 10] = bs [UInt8.ofNat (48 + m % 10)] := by
       have := ah8 m
       rw [Int.natCast_emod] at this
       exact this
     rw [st, abF]
     go_roundg (m / 10 + 1)
     case measure => omega
     case rel => exact ⟨m / 10, f - 1, _, by first | rfl | (congr 1; omega), by rfl, rfl, by
       obtain ⟨h1, h2, h3, -⟩ := HF.out
       rcases h2 with ⟨rfl, h⟩ | ⟨rfl, h⟩ | ⟨rfl, h⟩
       · rw [← h1]; unfold Ij; rw [if_neg (by omega)]; rfl
       · rw [← h1]; unfold Ij; rw [if_neg (by omega)]; rfl
       · omega, by have := HF.out.2.2.2; have := HF.out.2.1; simp only [List.length_append, List.length_cons, List.length_nil]; omega, by have := HF.out.2.1; omega, HF.out.2.2.1.alloc _⟩
   · have alb : ¬ (0 : Int) < (m : Int) := by omega
     obtain rfl : m = 0 := by omega
     go_wp2_with fail
     go_ret
     refine ⟨?_, HF.out.2.2.1⟩
     have : s = MH n := by
       obtain ⟨h1, h2, h3, -⟩ := HF.out
       rw [← h1]
       rcases h2 with ⟨rfl, h⟩ | ⟨rfl, h⟩ | ⟨rfl, h⟩ <;> rfl
     rw [this]
     rfl
end
section
open Go.RowKit
set_option maxRecDepth 100000 in
set_option maxHeartbeats 4000000 in
theorem Bt (w : World) (v : cB) (hv : bW v = true) : Calls Tryz.prog 32 #[oU v] w fun e w' => e = .returned (.string (bs (jd v))) ∧ Only [] w w' := by
 obtain ⟨hk1, hk2, hfl⟩ := j3 hv
 rcases v with ⟨K, wk, tk, ot, lv⟩
 obtain ⟨i, hi0, hi⟩ : ∃ i : Nat, K = (i : Int) + 1 ∧ i < 19 := ⟨(K - 1).toNat, by simp only at hk1; omega, by simp only at hk2; omega⟩
 subst hi0
 obtain ⟨n0, hn0⟩ : ∃ n : Nat, wk = n := ⟨wk.toNat, by have := hfl 0 (by omega); simp [gB] at this; omega⟩
 obtain ⟨n1, hn1⟩ : ∃ n : Nat, tk = n := ⟨tk.toNat, by have := hfl 1 (by omega); simp [gB] at this; omega⟩
 obtain ⟨n2, hn2⟩ : ∃ n : Nat, ot = n := ⟨ot.toNat, by have := hfl 2 (by omega); simp [gB] at this; omega⟩
 obtain ⟨n3, hn3⟩ : ∃ n : Nat, lv = n := ⟨lv.toNat, by have := hfl 3 (by omega); simp [gB] at this; omega⟩
 have b0 : n0 ≤ 256 := by have := hfl 0 (by omega); simp [gB] at this; omega
 have b1 : n1 ≤ 256 := by have := hfl 1 (by omega); simp [gB] at this; omega
 have b2 : n2 ≤ 256 := by have := hfl 2 (by omega); simp [gB] at this; omega
 have b3 : n3 ≤ 256 := by have := hfl 3 (by omega); simp [gB] at this; omega
 subst hn0 hn1 hn2 hn3
 have LB := Lib.hid (show ∀ s : ByteArray, s.data.toList = (aI i).word ++ (32 :: Lib.itoa n0) ++ (if (aI i).t then 32 :: Lib.itoa n1 else []) ++ (if (aI i).o then 32 :: Lib.itoa n2 else []) ++ (if (aI i).l then 32 :: Lib.itoa n3 else []) ++ [10] → s = bs (jd ⟨(i : Int) + 1, n0, n1, n2, n3⟩) from fun s e => by
   have e2 : ((i : Int) + 1 - 1).toNat = i := by omega
   apply ByteArray.ext
   apply Array.ext'
   rw [e]
   simp only [jd, e2, jG, MX, jo, gB, bs]
   simp)
 obtain ⟨I0, hI0⟩ : ∃ I : ByteArray, I = ⟨(Lib.itoa (n0 : Int)).toArray⟩ := ⟨_, rfl⟩
 obtain ⟨I1, hI1⟩ : ∃ I : ByteArray, I = ⟨(Lib.itoa (n1 : Int)).toArray⟩ := ⟨_, rfl⟩
 obtain ⟨I2, hI2⟩ : ∃ I : ByteArray, I = ⟨(Lib.itoa (n2 : Int)).toArray⟩ := ⟨_, rfl⟩
 obtain ⟨I3, hI3⟩ : ∃ I : ByteArray, I = ⟨(Lib.itoa (n3 : Int)).toArray⟩ := ⟨_, rfl⟩
 have z0 : I0.size ≤ 3 := by rw [hI0, gG]; exact qi (by omega) (by omega)
 have z1 : I1.size ≤ 3 := by rw [hI1, gG]; exact qi (by omega) (by omega)
 have z2 : I2.size ≤ 3 := by rw [hI2, gG]; exact qi (by omega) (by omega)
 have z3 : I3.size ≤ 3 := by rw [hI3, gG]; exact qi (by omega) (by omega)
 have N0 := Lib.hid (fun w => nJ w n0 b0)
 have N1 := Lib.hid (fun w => nJ w n1 b1)
 have N2 := Lib.hid (fun w => nJ w n2 b2)
 have N3 := Lib.hid (fun w => nJ w n3 b3)
 rw [← hI0] at N0
 rw [← hI1] at N1
 rw [← hI2] at N2
 rw [← hI3] at N3
 have LI := Lib.hid (show I0.data.toList = Lib.itoa n0 ∧ I1.data.toList = Lib.itoa n1 ∧ I2.data.toList = Lib.itoa n2 ∧ I3.data.toList = Lib.itoa n3 from ⟨by rw [hI0], by rw [hI1], by rw [hI2], by rw [hI3]⟩)
 clear hI0 hI1 hI2 hI3
 obtain ⟨R, hR⟩ : ∃ R, R = bs (jd ⟨(i : Int) + 1, n0, n1, n2, n3⟩) := ⟨_, rfl⟩
 rw [← hR] at LB ⊢
 clear hR hv hfl hk1 hk2
 unfold oU
 obtain ⟨bx, hbx⟩ : ∃ bx, bx = w.heap.size := ⟨_, rfl⟩
 have FY := Lib.hid hbx
 have hw0 := blk_alloc_new w (.cells #[.int .i64 ((i : Int) + 1), .int .i64 n0, .int .i64 n1, .int .i64 n2, .int .i64 n3] 27)
 rw [← hbx] at hw0
 have HW0 := Lib.hid hw0
 clear hbx hw0
 go_enter Tryz.func32, Tryz.ntmps32
 go_wp2_with fail
 rw [← FY.out]
 refine (um _).mono ?_; rintro e w1 ⟨b, rfl, hb, hle, o1⟩
 have O1 := Lib.hid (((Only.refl [] w).alloc _).bF o1)
 have TB := Lib.hid (o1.keep HW0.out (by simp))
 have HB := Lib.hid hb
 clear hb hle o1
 go_wp2_with fail
 go_loopw [4] (fun r wr => ∃ k : Nat, r = .int .i64 k ∧ k ≤ i ∧ Only [] w1 wr) (fun r _ => 19 - (intOf r).toNat)
 case atStart => exact ⟨0, rfl, by omega, Only.refl _ _⟩
 case round =>
   obtain ⟨k, rfl, hk, ho⟩ := hrel
   have OW := Lib.hid ho
   obtain ⟨wo, hwo⟩ : ∃ wo, wo = wr := ⟨_, rfl⟩
   subst hwo
   clear ho
   have qo : k < 19 := by omega
   obtain ⟨d0, d1, d2, d3, d4⟩ := ma (OW.out.keep HB.out (by simp)) qo
   have hx := OW.out.keep TB.out (by simp)
   have c0 := aa hx 0
   simp at c0
   have hbl := aK hx
   have hi1 : (0 : Int) ≤ (k : Int) := by omega
   have hi2 : (k : Int) < 19 := by omega
   by_cases hki : k = i
   · subst hki
     obtain ⟨w7, hw7⟩ : ∃ w7, w7 = wo.alloc (.cells #[.int .i64 ((k : Int) + 1), .string ⟨(aI k).word.toArray⟩, .bool (aI k).t, .bool (aI k).o, .bool (aI k).l] 106) := ⟨_, rfl⟩
     obtain ⟨fb, dO⟩ : ∃ fb, fb = wo.heap.size := ⟨_, rfl⟩
     have HF := Lib.hid (show Only [] w1 w7 ∧ w7.heap[fb]? = some (.cells #[.int .i64 ((k : Int) + 1), .string ⟨(aI k).word.toArray⟩, .bool (aI k).t, .bool (aI k).o, .bool (aI k).l] 106 (0, 0)) ∧ w7.heap[bx]? = some (.cells #[.int .i64 ((k : Int) + 1), .int .i64 n0, .int .i64 n1, .int .i64 n2, .int .i64 n3] 27 (0, 0)) from ⟨by rw [hw7]; exact OW.out.alloc _, by rw [hw7, dO]; exact blk_alloc_new _ _, by rw [hw7]; exact ((Only.refl [] wo).alloc _).keep hx (by simp)⟩)
     have HW7 := Lib.hid (And.intro hw7 dO)
     have hwl := Cj k
     obtain ⟨A, hA⟩ : ∃ A : ByteArray, A = ⟨(aI k).word.toArray⟩ := ⟨_, rfl⟩
     have zA : A.size ≤ 6 := by rw [hA, gG]; exact hwl
     have HA := Lib.hid (show A.data.toList = (aI k).word by rw [hA])
     have HAe := Lib.hid hA
     have nA : ¬ (9223372036854775807 < A.size + 1) := by omega
     have nB : ¬ (9223372036854775807 < A.size + 1 + I0.size) := by omega
     clear hA
     clear hw7 dO
     go_upto_region 7 with fail
     clear hbl d0 d1 d2 d3 d4
     rw [← HW7.out.1, ← HW7.out.2]
     have q1 := aa HF.out.2.1 1
     have q2 := aa HF.out.2.2 1
     simp at q1 q2
     rw [← HAe.out] at q1
     refine wp_region_held_drew (S := fun w' => w'.cell? ⟨fb, 1, none⟩ = some (.string A) ∧ w'.cell? ⟨bx, 1, none⟩ = some (.int .i64 n0)) (by kernel_rfl) ⟨q1, q2⟩ (fun hHeld => ?_)
     obtain ⟨wd, hwd⟩ : ∃ wd, wd = w7.drew := ⟨_, rfl⟩
     have HD := Lib.hid (show Only [] w7 wd from by rw [hwd]; exact (Only.refl _ _).drew)
     rw [← hwd] at hHeld ⊢
     clear hwd q1 q2 hwl
     refine wpAnyH_take (i := 0) (v := ?_) rfl (by kernel_rfl) (by kernel_rfl) (by kernel_rfl) (fun _ _ _ h => h) (Or.inl ⟨by rfl, ?_⟩) (by assumption) ?_
     rotate_left
     · (intro w hSw; (try dsimp only at hSw); obtain ⟨s1, s2⟩ := hSw; go_simp; try with_reducible rfl)
     refine wpAnyH_take (i := 1) (v := ?_) rfl (by kernel_rfl) (by kernel_rfl) (by kernel_rfl) (fun _ _ _ h => h) (Or.inl ⟨by rfl, ?_⟩) (by assumption) ?_
     rotate_left
     · (intro w hSw; (try dsimp only at hSw); obtain ⟨s1, s2⟩ := hSw; go_simp; try with_reducible rfl)
     refine wpAnyH_take (i := 2) (v := ?_) rfl (by kernel_rfl) (by kernel_rfl) (by kernel_rfl) (fun _ _ _ h => h) (Or.inl ⟨by rfl, ?_⟩) (by assumption) ?_
     rotate_left
     · (intro w hSw; (try dsimp only at hSw); obtain ⟨s1, s2⟩ := hSw; go_simp; try with_reducible rfl)
     refine wpAnyH_take (i := 3) (v := ?_) rfl (by kernel_rfl) (by kernel_rfl) (by kernel_rfl) (fun _ _ _ h => h) (Or.inl ⟨by rfl, ?_⟩) (by assumption) ?_
     rotate_left
     · (intro w hSw; (try dsimp only at hSw); obtain ⟨s1, s2⟩ := hSw; go_simp; try with_reducible rfl)
     refine wpAnyH_take (i := 4) (v := ?_) rfl (by kernel_rfl) (by kernel_rfl) (by kernel_rfl) (fun _ _ _ h => h) (Or.inl ⟨by rfl, ?_⟩) (by assumption) ?_
     rotate_left
     · (intro w hSw; (try dsimp only at hSw); obtain ⟨s1, s2⟩ := hSw; go_simp; try with_reducible rfl)
     try simp only [Act.put, sI]
     refine wpAnyH_ready (rs := [5]) (by kernel_rfl) (by simp) ?_
     refine AllReadyH.cons rfl (fun K hK => ?_) AllReadyH.nil
     go_simp
     refine (N0.out _).mono ?_
     rintro e wn ⟨rfl, on⟩
     have tK := Lib.hid (show Only [] w7 wn from HD.out.bF on)
     have q3 := tK.out.keep HF.out.2.1 (by simp)
     have q4 := tK.out.keep HF.out.2.2 (by simp)
     have q1 := aa q3 1
     have q2 := aa q4 1
     simp at q1 q2
     rw [← HAe.out] at q1
     clear on
     refine hK.out _ _ ⟨q1, q2⟩ (fun hHeld => ?_)
     clear hK K
     try simp only [Act.put, sI]
     refine wpAnyH_take (i := 6) (v := ?_) rfl (by kernel_rfl) (by kernel_rfl) (by kernel_rfl) (fun _ _ _ h => h) (Or.inl ⟨by rfl, ?_⟩) (by assumption) ?_
     rotate_left
     · (intro w hSw; (try dsimp only at hSw); obtain ⟨s1, s2⟩ := hSw; go_simp; try with_reducible rfl)
     refine wpAnyH_take (i := 7) (v := ?_) rfl (by kernel_rfl) (by kernel_rfl) (by kernel_rfl) (fun _ _ _ h => h) (Or.inl ⟨by rfl, ?_⟩) (by assumption) ?_
     rotate_left
     · (intro w hSw; (try dsimp only at hSw); obtain ⟨s1, s2⟩ := hSw; go_simp; try with_reducible rfl)
     try simp only [Act.put, sI]
     refine wpAnyH_done (by kernel_rfl) ?_ _
     clear nA nB
     have q3 := tK.out.keep HF.out.2.1 (by simp)
     have q1 := aa q3 2
     simp at q1
     clear q3
     cases ht : (aI k).t with
     | true =>
       rw [ht] at q1
       have q4 := tK.out.keep HF.out.2.2 (by simp)
       have q2 := aa q4 2
       simp at q2
       clear q4
       go_wp2_with fail
       refine (N1.out _).mono ?_
       rintro e v1 ⟨rfl, on⟩
       have K1 := Lib.hid (show Only [] w7 v1 from tK.out.bF on)
       clear on q1 q2
       go_upto_region 10 with fail
       have q3 := K1.out.keep HF.out.2.1 (by simp)
       have q1 := aa q3 3
       simp at q1
       clear q3
       cases ho : (aI k).o with
       | true =>
         rw [ho] at q1
         have q4 := K1.out.keep HF.out.2.2 (by simp)
         have q2 := aa q4 3
         simp at q2
         clear q4
         go_wp2_with fail
         refine (N2.out _).mono ?_
         rintro e v2 ⟨rfl, on⟩
         have K2 := Lib.hid (show Only [] w7 v2 from K1.out.bF on)
         clear on q1 q2
         go_upto_region 12 with fail
         have q3 := K2.out.keep HF.out.2.1 (by simp)
         have q1 := aa q3 4
         simp at q1
         clear q3
         cases hl : (aI k).l with
         | true =>
           rw [hl] at q1
           have q4 := K2.out.keep HF.out.2.2 (by simp)
           have q2 := aa q4 4
           simp at q2
           clear q4
           go_wp2_with fail
           refine (N3.out _).mono ?_
           rintro e v3 ⟨rfl, on⟩
           have K3 := Lib.hid (show Only [] w7 v3 from K2.out.bF on)
           clear on q1 q2
           go_wp2_with fail
           go_ret
           refine ⟨?_, (O1.out.bF HF.out.1).bF K3.out⟩
           change Ending.returned (Value.string _) = Ending.returned (Value.string _)
           refine congrArg (fun s => Ending.returned (Value.string s)) ?_
           refine LB.out _ ?_
           simp only [ByteArray.data_append, Array.toList_append, HA.out, LI.out.1, LI.out.2.1, LI.out.2.2.1, LI.out.2.2.2, ht, ho, hl]
           simp
         | false =>
           rw [hl] at q1
           go_wp2_with fail
           go_ret
           refine ⟨?_, (O1.out.bF HF.out.1).bF K2.out⟩
           change Ending.returned (Value.string _) = Ending.returned (Value.string _)
           refine congrArg (fun s => Ending.returned (Value.string s)) ?_
           refine LB.out _ ?_
           simp only [ByteArray.data_append, Array.toList_append, HA.out, LI.out.1, LI.out.2.1, LI.out.2.2.1, LI.out.2.2.2, ht, ho, hl]
           simp
       | false =>
         rw [ho] at q1
         go_upto_region 12 with fail
         clear q1
         have q3 := K1.out.keep HF.out.2.1 (by simp)
         have q1 := aa q3 4
         simp at q1
         clear q3
         cases hl : (aI k).l with
         | true =>
           rw [hl] at q1
           have q4 := K1.out.keep HF.out.2.2 (by simp)
           have q2 := aa q4 4
           simp at q2
           clear q4
           go_wp2_with fail
           refine (N3.out _).mono ?_
           rintro e v4 ⟨rfl, on⟩
           have K4 := Lib.hid (show Only [] w7 v4 from K1.out.bF on)
           clear on q1 q2
           go_wp2_with fail
           go_ret
           refine ⟨?_, (O1.out.bF HF.out.1).bF K4.out⟩
           change Ending.returned (Value.string _) = Ending.returned (Value.string _)
           refine congrArg (fun s => Ending.returned (Value.string s)) ?_
           refine LB.out _ ?_
           simp only [ByteArray.data_append, Array.toList_append, HA.out, LI.out.1, LI.out.2.1, LI.out.2.2.1, LI.out.2.2.2, ht, ho, hl]
           simp
         | false =>
           rw [hl] at q1
           go_wp2_with fail
           go_ret
           refine ⟨?_, (O1.out.bF HF.out.1).bF K1.out⟩
           change Ending.returned (Value.string _) = Ending.returned (Value.string _)
           refine congrArg (fun s => Ending.returned (Value.string s)) ?_
           refine LB.out _ ?_
           simp only [ByteArray.data_append, Array.toList_append, HA.out, LI.out.1, LI.out.2.1, LI.out.2.2.1, LI.out.2.2.2, ht, ho, hl]
           simp
     | false =>
       rw [ht] at q1
       go_upto_region 10 with fail
       clear q1
       have q3 := tK.out.keep HF.out.2.1 (by simp)
       have q1 := aa q3 3
       simp at q1
       clear q3
       cases ho : (aI k).o with
       | true =>
         rw [ho] at q1
         have q4 := tK.out.keep HF.out.2.2 (by simp)
         have q2 := aa q4 3
         simp at q2
         clear q4
         go_wp2_with fail
         refine (N2.out _).mono ?_
         rintro e v5 ⟨rfl, on⟩
         have K5 := Lib.hid (show Only [] w7 v5 from tK.out.bF on)
         clear on q1 q2
         go_upto_region 12 with fail
         have q3 := K5.out.keep HF.out.2.1 (by simp)
         have q1 := aa q3 4
         simp at q1
         clear q3
         cases hl : (aI k).l with
         | true =>
           rw [hl] at q1
           have q4 := K5.out.keep HF.out.2.2 (by simp)
           have q2 := aa q4 4
           simp at q2
           clear q4
           go_wp2_with fail
           refine (N3.out _).mono ?_
           rintro e v6 ⟨rfl, on⟩
           have K6 := Lib.hid (show Only [] w7 v6 from K5.out.bF on)
           clear on q1 q2
           go_wp2_with fail
           go_ret
           refine ⟨?_, (O1.out.bF HF.out.1).bF K6.out⟩
           change Ending.returned (Value.string _) = Ending.returned (Value.string _)
           refine congrArg (fun s => Ending.returned (Value.string s)) ?_
           refine LB.out _ ?_
           simp only [ByteArray.data_append, Array.toList_append, HA.out, LI.out.1, LI.out.2.1, LI.out.2.2.1, LI.out.2.2.2, ht, ho, hl]
           simp
         | false =>
           rw [hl] at q1
           go_wp2_with fail
           go_ret
           refine ⟨?_, (O1.out.bF HF.out.1).bF K5.out⟩
           change Ending.returned (Value.string _) = Ending.returned (Value.string _)
           refine congrArg (fun s => Ending.returned (Value.string s)) ?_
           refine LB.out _ ?_
           simp only [ByteArray.data_append, Array.toList_append, HA.out, LI.out.1, LI.out.2.1, LI.out.2.2.1, LI.out.2.2.2, ht, ho, hl]
           simp
       | false =>
         rw [ho] at q1
         go_upto_region 12 with fail
         clear q1
         have q3 := tK.out.keep HF.out.2.1 (by simp)
         have q1 := aa q3 4
         simp at q1
         clear q3
         cases hl : (aI k).l with
         | true =>
           rw [hl] at q1
           have q4 := tK.out.keep HF.out.2.2 (by simp)
           have q2 := aa q4 4
           simp at q2
           clear q4
           go_wp2_with fail
           refine (N3.out _).mono ?_
           rintro e v7 ⟨rfl, on⟩
           have K7 := Lib.hid (show Only [] w7 v7 from tK.out.bF on)
           clear on q1 q2
           go_wp2_with fail
           go_ret
           refine ⟨?_, (O1.out.bF HF.out.1).bF K7.out⟩
           change Ending.returned (Value.string _) = Ending.returned (Value.string _)
           refine congrArg (fun s => Ending.returned (Value.string s)) ?_
           refine LB.out _ ?_
           simp only [ByteArray.data_append, Array.toList_append, HA.out, LI.out.1, LI.out.2.1, LI.out.2.2.1, LI.out.2.2.2, ht, ho, hl]
           simp
         | false =>
           rw [hl] at q1
           go_wp2_with fail
           go_ret
           refine ⟨?_, (O1.out.bF HF.out.1).bF tK.out⟩
           change Ending.returned (Value.string _) = Ending.returned (Value.string _)
           refine congrArg (fun s => Ending.returned (Value.string s)) ?_
           refine LB.out _ ?_
           simp only [ByteArray.data_append, Array.toList_append, HA.out, LI.out.1, LI.out.2.1, LI.out.2.2.1, LI.out.2.2.2, ht, ho, hl]
           simp
   · have hne : ¬ ((k : Int) + 1 = (i : Int) + 1) := by omega
     have hne2 : ¬ ((k : Int) = (i : Int)) := by omega
     have OA := Lib.hid (OW.out.alloc (.cells #[.int .i64 ((k : Int) + 1), .string ⟨(aI k).word.toArray⟩, .bool (aI k).t, .bool (aI k).o, .bool (aI k).l] 106))
     go_wp2_with fail
     go_roundw
     case rel => exact ⟨k + 1, by first | rfl | (congr 1; omega), by omega, OA.out⟩
     case measure => simp [intOf]; omega
end
end Go.Proofs.YtncnepmgmphanaaGreatDoor
