/- The text of events is parsed as these events, and a text that is parsed is the text of its events: plain. No condition. -/
import Derived.Test.YtncnepmgmphanaaGreatDoorMg24
import Derived.Test.YtncnepmgmphanaaGreatDoorMg23
import Derived.Test.YtncnepmgmphanaaGreatDoorMg25
import Derived.Test.YtncnepmgmphanaaGreatDoorMg26
import Derived.Test.YtncnepmgmphanaaGreatDoorEvChg
import Derived.Deep.DeepCutAuto
set_option linter.unusedVariables false
set_option linter.unusedSimpArgs false
set_option linter.unusedSectionVars false
namespace Go.Proofs.YtncnepmgmphanaaGreatDoor
section
open Go.RowKit
def iH : List (List UInt8) → List UInt8
 | [] => []
 | [w] => w
 | w :: v :: ws => w ++ 32 :: iH (v :: ws)
theorem D5 (c : UInt8) : ∀ w : List UInt8, c ∉ w → Lib.indexByte w c = -1
 | [], _ => rfl
 | b :: w, h => by
   have h1 : b ≠ c := fun e => h (by simp [e])
   have h2 := D5 c w fun hm => h (by simp [hm])
   unfold Lib.indexByte
   rw [if_neg (by simpa using h1), if_pos (by simp [h2])]
theorem C8 (c : UInt8) (r : List UInt8) : ∀ w : List UInt8, c ∉ w → Lib.indexByte (w ++ c :: r) c = w.length
 | [], _ => by unfold Lib.indexByte; simp
 | b :: w, h => by
   have h1 : b ≠ c := fun e => h (by simp [e])
   have h2 := C8 c r w fun hm => h (by simp [hm])
   rw [List.cons_append]
   unfold Lib.indexByte
   rw [if_neg (by simpa using h1), h2, if_neg (by
     have : ((w.length : Int) == -1) = false := by first | (simp; done) | (simp; omega)
     simp [this])]
   simp
theorem FW : ∀ (ws : List (List UInt8)) (k : Nat), ws ≠ [] → (∀ w ∈ ws, (32 : UInt8) ∉ w) → ws.length ≤ k + 1 → Lib.splitK [32] 0 k (iH ws) = ws
 | [], _, h, _, _ => absurd rfl h
 | [w], k, _, h, _ => by
   cases k with
   | zero => rfl
   | succ k =>
     unfold Lib.splitK iH
     rw [Lib.index_one, D5 32 w (h w (by simp))]
     rfl
 | w :: v :: ws, k, _, h, hl => by
   cases k with
   | zero => simp at hl
   | succ k =>
     have h2 := FW (v :: ws) k (by simp) (fun x hx => h x (by simp [hx])) (by simp at hl ⊢; omega)
     unfold Lib.splitK
     rw [iH, Lib.index_one, C8 32 _ w (h w (by simp))]
     rw [if_neg (by
       have : ((w.length : Int) == -1) = false := by first | (simp; done) | (simp; omega)
       simp [this])]
     have e1 : (w ++ 32 :: iH (v :: ws)).take ((w.length : Int).toNat + 0) = w := by simp
     have e2 : (w ++ 32 :: iH (v :: ws)).drop ((w.length : Int).toNat + [(32 : UInt8)].length) = iH (v :: ws) := by simp
     rw [e1, e2, h2]
theorem EF : ∀ (ws : List (List UInt8)), ws ≠ [] → (∀ w ∈ ws, (32 : UInt8) ∉ w) → (iH ws).count 32 + 1 = ws.length
 | [], h, _ => absurd rfl h
 | [w], _, h => by
   unfold iH
   rw [List.count_eq_zero.2 (h w (by simp))]
   rfl
 | w :: v :: ws, _, h => by
   have h2 := EF (v :: ws) (by simp) fun x hx => h x (by simp [hx])
   rw [iH, List.count_append, List.count_cons, List.count_eq_zero.2 (h w (by simp))]
   simp only [List.length_cons] at h2 ⊢
   simp
   omega
theorem Uc : ∀ s : List UInt8, ∃ ws, ws ≠ [] ∧ (∀ w ∈ ws, (32 : UInt8) ∉ w) ∧ s = iH ws
 | [] => ⟨[[]], by simp, by simp, rfl⟩
 | c :: r => by
   obtain ⟨ws, h1, h2, h3⟩ := Uc r
   match ws, h1 with
   | w :: ws', _ =>
     by_cases hc : c = 32
     · subst hc
       refine ⟨[] :: w :: ws', by simp, fun x hx => ?_, by rw [iH, ← h3]; rfl⟩
       rcases List.mem_cons.1 hx with rfl | hx
       · simp
       · exact h2 x hx
     · refine ⟨(c :: w) :: ws', by simp, fun x hx => ?_, ?_⟩
       · rcases List.mem_cons.1 hx with rfl | hx
         · intro hm
           rcases List.mem_cons.1 hm with e | e
           · exact hc e.symm
           · exact h2 w (by simp) e
         · exact h2 x (by simp [hx])
       · rw [h3]
         cases ws' with
         | nil => rfl
         | cons v vs => rfl
theorem wu {ws : List (List UInt8)} {s : ByteArray} (h1 : ws ≠ []) (h2 : ∀ w ∈ ws, (32 : UInt8) ∉ w) (h3 : s.data.toList = iH ws) : (dA s).map (·.data.toList) = ws := by
 unfold dA
 rw [Lib.splitB_data]
 have e : blank.data.toList = [32] := rfl
 rw [e, h3]
 refine FW ws _ h1 h2 ?_
 show ws.length ≤ Lib.count s.data.toList blank.data.toList + 1
 rw [e, h3, Lib.count_one, EF ws h1 h2]
 exact Nat.le_refl _
theorem MM (s : ByteArray) : s.data.toList = iH ((dA s).map (·.data.toList)) ∧ ∀ w ∈ dA s, (32 : UInt8) ∉ w.data.toList := by
 obtain ⟨ws, h1, h2, h3⟩ := Uc s.data.toList
 have h4 := wu h1 h2 h3
 refine ⟨by rw [h4, h3], fun w hw => h2 _ ?_⟩
 rw [← h4]
 exact List.mem_map_of_mem hw
theorem NG {ws : List (List UInt8)} {s : ByteArray} (h1 : ws ≠ []) (h2 : ∀ w ∈ ws, (32 : UInt8) ∉ w) (h3 : s.data.toList = iH ws) : dA s = ws.map fun w => ⟨w.toArray⟩ := by
 have h := wu h1 h2 h3
 rw [← h, List.map_map]
 conv => lhs; rw [← List.map_id (dA s)]
 apply List.map_congr_left
 intro w _
 simp
theorem kY (n : Int) (h0 : 0 ≤ n) (h1 : n ≤ 256) : qN (Lib.itoa n) = some n ∧ (32 : UInt8) ∉ Lib.itoa n ∧ (10 : UInt8) ∉ Lib.itoa n := by
 have h : (List.range 257).all (fun n => decide (qN (Lib.itoa (n : Int)) = some (n : Int)) && decide ((32 : UInt8) ∉ Lib.itoa (n : Int)) && decide ((10 : UInt8) ∉ Lib.itoa (n : Int))) = true := by kernel_rfl
 have := List.all_eq_true.1 h n.toNat (List.mem_range.2 (by omega))
 rw [show ((n.toNat : Nat) : Int) = n by omega] at this
 simp only [Bool.and_eq_true, decide_eq_true_eq] at this
 exact ⟨this.1.1, this.1.2, this.2⟩
theorem tV (k : Nat) (hk : k < 19) : kG (gV k) 19 = some k ∧ (32 : UInt8) ∉ (aI k).word ∧ (10 : UInt8) ∉ (aI k).word := by
 have h : (List.range 19).all (fun k => decide (kG (gV k) 19 = some k) && decide ((32 : UInt8) ∉ (aI k).word) && decide ((10 : UInt8) ∉ (aI k).word)) = true := by kernel_rfl
 have := List.all_eq_true.1 h k (List.mem_range.2 hk)
 simp only [Bool.and_eq_true, decide_eq_true_eq] at this
 exact ⟨this.1.1, this.1.2, this.2⟩
theorem Jq {w0 : ByteArray} {k : Nat} : ∀ n, n ≤ 19 → kG w0 n = some k → gV k = w0 ∧ k < 19
 | 0, _, h => by cases h
 | n + 1, hn, h => by
   unfold kG at h
   split at h
   · rename_i e
     cases h
     exact ⟨e, by omega⟩
   · exact Jq n (by omega) h
def iw (e : cB) (f : iN) : List (List UInt8) := [f.word, Lib.itoa e.worker] ++ (if f.t then [Lib.itoa e.task] else []) ++ (if f.o then [Lib.itoa e.other] else []) ++ (if f.l then [Lib.itoa e.level] else [])
theorem xI (e : cB) (f : iN) : jG e f 4 = iH (iw e f) := by
 simp only [jG, MX, jo, gB, iw]
 cases f.t <;> cases f.o <;> cases f.l <;> simp [iH]
theorem M4 {e : cB} (h : bW e = true) : ∀ w ∈ iw e (aI (e.kind - 1).toNat), (32 : UInt8) ∉ w ∧ (10 : UInt8) ∉ w := fun w hw => by
 obtain ⟨h1, h2, h3⟩ := j3 h
 have fw := tV (e.kind - 1).toNat (by omega)
 have a0 := h3 0 (by omega)
 have a1 := h3 1 (by omega)
 have a2 := h3 2 (by omega)
 have a3 := h3 3 (by omega)
 simp only [gB] at a0 a1 a2 a3
 simp at a0 a1 a2 a3
 have key : w = (aI (e.kind - 1).toNat).word ∨ w = Lib.itoa e.worker ∨ w = Lib.itoa e.task ∨ w = Lib.itoa e.other ∨ w = Lib.itoa e.level := by
   simp only [iw, List.mem_append, List.mem_cons, List.not_mem_nil, or_false] at hw
   rcases hw with ((((h | h) | h) | h) | h)
   · exact .inl h
   · exact .inr (.inl h)
   · split at h
     · exact .inr (.inr (.inl (by simpa using h)))
     · cases h
   · split at h
     · exact .inr (.inr (.inr (.inl (by simpa using h))))
     · cases h
   · split at h
     · exact .inr (.inr (.inr (.inr (by simpa using h))))
     · cases h
 rcases key with rfl | rfl | rfl | rfl | rfl
 · exact fw.2
 · exact (kY _ a0.1 a0.2).2
 · exact (kY _ a1.1 a1.2).2
 · exact (kY _ a2.1 a2.2).2
 · exact (kY _ a3.1 a3.2).2
def l9 (e : cB) : List UInt8 := jG e (aI (e.kind - 1).toNat) 4
theorem Vm (e : cB) : jd e = l9 e ++ [10] := rfl
theorem adN {e : cB} {f : iN} (hw : 0 ≤ e.worker ∧ e.worker ≤ 256) (ht : 0 ≤ e.task ∧ e.task ≤ 256) (ho : 0 ≤ e.other ∧ e.other ≤ 256) (hl : 0 ≤ e.level ∧ e.level ≤ 256) (zt : f.t = false → e.task = 0) (zo : f.o = false → e.other = 0) (zl : f.l = false → e.level = 0) :
   dW f ((iw e f).tail.map fun w => (⟨w.toArray⟩ : ByteArray)) 4 = some ([e.worker, e.task, e.other, e.level], []) := by
 have w1 := (kY _ hw.1 hw.2).1
 have t1 := (kY _ ht.1 ht.2).1
 have o1 := (kY _ ho.1 ho.2).1
 have l1 := (kY _ hl.1 hl.2).1
 cases h1 : f.t <;> cases h2 : f.o <;> cases h3 : f.l <;> simp [dW, jo, iw, h1, h2, h3, w1, t1, o1, l1, zt, zo, zl]
theorem acp {e : cB} (h : bW e = true) : eD ⟨(l9 e).toArray⟩ = some e := by
 obtain ⟨h1, h2, h3⟩ := j3 h
 have hk : (e.kind - 1).toNat < 19 := by omega
 have fw := tV (e.kind - 1).toNat hk
 have a0 := h3 0 (by omega)
 have a1 := h3 1 (by omega)
 have a2 := h3 2 (by omega)
 have a3 := h3 3 (by omega)
 simp only [gB] at a0 a1 a2 a3
 simp at a0 a1 a2 a3
 have hv := h
 simp only [bW, dI, Bool.and_eq_true, decide_eq_true_eq, Bool.or_eq_true] at hv
 have we : dA ⟨(l9 e).toArray⟩ = (iw e (aI (e.kind - 1).toNat)).map fun w => ⟨w.toArray⟩ := NG (by simp [iw]) (fun w hw => (M4 h w hw).1) (by simp only [l9]; exact xI e _)
 have hf := adN (e := e) (f := aI (e.kind - 1).toNat) a0 a1 a2 a3 (fun hz => by have := hv.1.1.2.2; rw [hz] at this; simpa using this) (fun hz => by have := hv.1.2.2; rw [hz] at this; simpa using this) (fun hz => by have := hv.2.2; rw [hz] at this; simpa using this)
 have he : Ec (e.kind - 1).toNat [e.worker, e.task, e.other, e.level] = e := by
   rcases e with ⟨K, a, t, o, l⟩
   simp only at h1 h2
   show (⟨(((K - 1).toNat : Nat) : Int) + 1, a, t, o, l⟩ : cB) = ⟨K, a, t, o, l⟩
   congr 1
   omega
 unfold eD
 rw [we]
 have hd : ((iw e (aI (e.kind - 1).toNat)).map fun w => (⟨w.toArray⟩ : ByteArray)).headD ByteArray.empty = gV (e.kind - 1).toNat := rfl
 rw [hd, fw.1, ← List.map_tail]
 simp only [hf]
 rw [he, if_pos ⟨trivial, h⟩]
theorem rO {f : iN} {ws : List ByteArray} {i : Nat} {vs : List Int} {rest : List ByteArray} (h : dW f ws (i + 1) = some (vs, rest)) : ∃ Ti AU, dW f ws i = some (Ti, AU) ∧ ((jo f i = true ∧ ∃ n : Int, AU = ⟨(Lib.itoa n).toArray⟩ :: rest ∧ vs = Ti ++ [n]) ∨ (jo f i = false ∧ vs = Ti ++ [0] ∧ AU = rest)) := by
 unfold dW at h
 cases hf : dW f ws i with
 | none => rw [hf] at h; cases h
 | some p =>
   obtain ⟨Ti, AU⟩ := p
   rw [hf] at h
   refine ⟨Ti, AU, rfl, ?_⟩
   simp only at h
   split at h
   · rename_i hu
     refine .inl ⟨hu, ?_⟩
     cases AU with
     | nil => cases h
     | cons r rest' =>
       simp only at h
       split at h
       · cases h
       · rename_i n hn
         split at h
         · rename_i he
           simp only [Option.some.injEq, Prod.mk.injEq] at h
           obtain ⟨rfl, rfl⟩ := h
           exact ⟨n, by rw [he], rfl⟩
         · cases h
   · rename_i hu
     simp only [Option.some.injEq, Prod.mk.injEq] at h
     obtain ⟨rfl, rfl⟩ := h
     exact .inr ⟨by simpa using hu, rfl, rfl⟩
theorem Yl {f : iN} {ws : List ByteArray} {vs : List Int} (h : dW f ws 4 = some (vs, [])) : ∃ a b c d : Int, vs = [a, b, c, d] ∧ (f.t = false → b = 0) ∧ (f.o = false → c = 0) ∧ (f.l = false → d = 0) ∧ ws.map (·.data.toList) = (iw ⟨0, a, b, c, d⟩ f).tail := by
 obtain ⟨v3, r3, h3, s3⟩ := rO h
 obtain ⟨v2, r2, h2, s2⟩ := rO h3
 obtain ⟨v1, r1, h1, s1⟩ := rO h2
 obtain ⟨v0, r0, h0, s0⟩ := rO h1
 simp only [dW, Option.some.injEq, Prod.mk.injEq] at h0
 obtain ⟨rfl, rfl⟩ := h0
 simp only [jo] at s0 s1 s2 s3
 rcases s0 with ⟨-, a, rfl, rfl⟩ | ⟨hu, -⟩
 rotate_left
 · simp at hu
 simp only [show ((1 : Nat) = 0) = False by simp, if_false, if_true, show ((2 : Nat) = 0) = False by simp, show ((2 : Nat) = 1) = False by simp, show ((3 : Nat) = 0) = False by simp, show ((3 : Nat) = 1) = False by simp, show ((3 : Nat) = 2) = False by simp] at s1 s2 s3
 rcases s1 with ⟨u1, b, rfl, rfl⟩ | ⟨u1, rfl, rfl⟩ <;> rcases s2 with ⟨u2, c, rfl, rfl⟩ | ⟨u2, rfl, rfl⟩ <;> rcases s3 with ⟨u3, d, rfl, rfl⟩ | ⟨u3, rfl, rfl⟩
 · exact ⟨a, b, c, d, rfl, (fun e => by rw [u1] at e; cases e), (fun e => by rw [u2] at e; cases e), (fun e => by rw [u3] at e; cases e), by simp [iw, u1, u2, u3]⟩
 · exact ⟨a, b, c, 0, rfl, (fun e => by rw [u1] at e; cases e), (fun e => by rw [u2] at e; cases e), fun e => rfl, by simp [iw, u1, u2, u3]⟩
 · exact ⟨a, b, 0, d, rfl, (fun e => by rw [u1] at e; cases e), fun e => rfl, (fun e => by rw [u3] at e; cases e), by simp [iw, u1, u2, u3]⟩
 · exact ⟨a, b, 0, 0, rfl, (fun e => by rw [u1] at e; cases e), fun e => rfl, fun e => rfl, by simp [iw, u1, u2, u3]⟩
 · exact ⟨a, 0, c, d, rfl, fun e => rfl, (fun e => by rw [u2] at e; cases e), (fun e => by rw [u3] at e; cases e), by simp [iw, u1, u2, u3]⟩
 · exact ⟨a, 0, c, 0, rfl, fun e => rfl, (fun e => by rw [u2] at e; cases e), fun e => rfl, by simp [iw, u1, u2, u3]⟩
 · exact ⟨a, 0, 0, d, rfl, fun e => rfl, fun e => rfl, (fun e => by rw [u3] at e; cases e), by simp [iw, u1, u2, u3]⟩
 · exact ⟨a, 0, 0, 0, rfl, fun e => rfl, fun e => rfl, fun e => rfl, by simp [iw, u1, u2, u3]⟩
theorem acQ {s : ByteArray} {e : cB} (h : eD s = some e) : bW e = true ∧ l9 e = s.data.toList := by
 unfold eD at h
 cases hk : kG ((dA s).headD ByteArray.empty) 19 with
 | none => rw [hk] at h; cases h
 | some k =>
   rw [hk] at h
   simp only at h
   obtain ⟨hw0, qo⟩ := Jq 19 (Nat.le_refl _) hk
   cases hf : dW (aI k) (dA s).tail 4 with
   | none => rw [hf] at h; cases h
   | some p =>
     obtain ⟨vs, rest⟩ := p
     rw [hf] at h
     simp only at h
     split at h
     · rename_i hc
       obtain ⟨rfl, hv⟩ := hc
       cases h
       refine ⟨hv, ?_⟩
       obtain ⟨a, b, c, d, rfl, -, -, -, hws⟩ := Yl hf
       have hkk : ((Ec k [a, b, c, d]).kind - 1).toNat = k := by
         show (((k : Int) + 1) - 1).toNat = k
         omega
       rw [l9, hkk, xI, (MM s).1]
       congr 1
       have hpos := lX s
       cases hwd : dA s with
       | nil => rw [hwd] at hpos; simp at hpos
       | cons w ws =>
         rw [hwd] at hws hw0
         simp only [List.tail_cons] at hws
         simp only [List.headD_cons] at hw0
         rw [List.map_cons, hws, ← hw0]
         rfl
     · cases h
theorem Mg (c : UInt8) : ∀ l : List UInt8, c ∈ l → ∃ w r, c ∉ w ∧ l = w ++ c :: r
 | [], h => by cases h
 | b :: l, h => by
   by_cases e : b = c
   · subst e
     exact ⟨[], l, by simp, rfl⟩
   · obtain ⟨w, r, h1, h2⟩ := Mg c l (by
       rcases List.mem_cons.1 h with h3 | h3
       · exact absurd h3.symm e
       · exact h3)
     refine ⟨b :: w, r, ?_, by rw [h2]; rfl⟩
     intro hm
     rcases List.mem_cons.1 hm with h3 | h3
     · exact e h3.symm
     · exact h1 h3
theorem acB {w r : List UInt8} (h : (10 : UInt8) ∉ w) : Lib.cut (w ++ 10 :: r) [10] = (w, r, true) := by
 unfold Lib.cut
 rw [Lib.index_one, C8 10 r w h, if_pos (by omega)]
 simp
theorem agG {tx : List UInt8} (h : (Lib.cut tx [10]).2.2 = true) : ∃ w r, (10 : UInt8) ∉ w ∧ tx = w ++ 10 :: r := by
 by_cases hm : (10 : UInt8) ∈ tx
 · exact Mg 10 tx hm
 · unfold Lib.cut at h
   rw [Lib.index_one, D5 10 tx hm, if_neg (by omega)] at h
   cases h
end
section
open Go.RowKit
theorem Xv (l : List cB) : (iY l).1.length ≤ 1507328 := by
 unfold iY
 split
 · simp
 · split
   · rename_i h1 h2
     have := BO (List.all_eq_true.1 h2)
     simp only
     omega
   · simp
theorem agV (l : List UInt8) : (bs l).size = l.length := by simp [bs, ByteArray.size]
end
section
open Go.RowKit
def kS (l : List UInt8) : Nat := l.foldl (fun n c => n * 10 + (c.toNat - 48)) 0
def lI (c : UInt8) : Bool := decide (48 ≤ c.toNat) && decide (c.toNat ≤ 57)
def ni (l : List UInt8) : Option Nat := if l.length = 0 ∨ 4 < l.length ∨ (1 < l.length ∧ l.getD 0 0 = 48) then none else if l.all lI && decide (kS l ≤ 256) then some (kS l) else none
theorem zO (l : List UInt8) (c : UInt8) : kS (l ++ [c]) = kS l * 10 + (c.toNat - 48) := by simp [kS, List.foldl_append]
theorem Tc (l : List UInt8) : (∀ c ∈ l, lI c = true) → kS l < 10 ^ l.length := by
 have h : ∀ (r : List UInt8), (∀ c ∈ r, lI c = true) → kS r.reverse < 10 ^ r.length := by
   intro r
   induction r with
   | nil => intro _; simp [kS]
   | cons c r ih =>
     intro hc
     have h1 := ih fun x hx => hc x (by simp [hx])
     have h2 := hc c (by simp)
     simp [lI] at h2
     rw [List.reverse_cons, zO, List.length_cons, Nat.pow_succ]
     omega
 intro hc
 have := h l.reverse (fun c hx => hc c (by simpa using hx))
 simpa using this
theorem wrap_u8 {x : Int} (h0 : 0 ≤ x) (h1 : x ≤ 255) : IntKind.u8.wrap x = x := by
 unfold IntKind.wrap
 simp [IntKind.signed, IntKind.bits]
 omega
theorem xK (n : Nat) (h : n ≤ 256) : ni (Lib.itoa (n : Int)) = some n := by
 have h2 : (List.range 257).all (fun n => decide (ni (Lib.itoa (n : Int)) = some n)) = true := by kernel_rfl
 simpa using List.all_eq_true.1 h2 n (List.mem_range.2 (by omega))
def agb (w : World) (s : ByteArray) (e : Ending) (w' : World) : Prop := ∃ (n : Int) (ok : Bool), e = .returned (.tuple #[.int .i64 n, .bool ok]) ∧ (ok = true → ni s.data.toList = some n.toNat ∧ 0 ≤ n) ∧ (ok = false → ni s.data.toList = none) ∧ Only [] w w'
set_option maxRecDepth 100000 in
set_option maxHeartbeats 4000000 in
theorem Vi (w : World) (s : ByteArray) : Calls Tryz.prog 52 #[.string s] w (agb w s) := by
 by_cases h0 : s.size = 0
 · go_enter Tryz.func52, Tryz.ntmps52
   go_wp2_with fail
   refine bodyPost_ret (results_tmp2 rfl _ _ _) rfl ?_
   exact ⟨0, false, rfl, fun e => by (cases e), fun _ => by unfold ni; rw [if_pos (.inl (by rw [← Lib.size_eq]; exact h0))], Only.refl _ _⟩
 by_cases h4 : 4 < s.size
 · have h4' : (4 : Int) < (s.size : Int) := by omega
   have h0' : ((s.size : Int) == 0) = false := beq_eq_false_iff_ne.2 (by omega)
   go_enter Tryz.func52, Tryz.ntmps52
   go_wp2_with fail
   refine bodyPost_ret (results_tmp2 rfl _ _ _) rfl ?_
   exact ⟨0, false, rfl, fun e => by (cases e), fun _ => by unfold ni; rw [if_pos (.inr (.inl (by rw [← Lib.size_eq]; exact h4)))], Only.refl _ _⟩
 have h4' : ¬ (4 : Int) < (s.size : Int) := by omega
 have h0' : ((s.size : Int) == 0) = false := beq_eq_false_iff_ne.2 (by omega)
 have hp : (0 : Int) < (s.size : Int) := by omega
 have hpn : 0 < s.size := by omega
 have hl0 : s.data.toList.length = s.size := (Lib.size_eq s).symm
 have s0 : s.data.toList.getD 0 0 = s[0] := by
   rw [List.getD_eq_getElem?_getD, List.getElem?_eq_getElem (by omega)]
   simp
   rfl
 by_cases hz : 1 < s.size ∧ s[0].toNat = 48
 · have h1' : (1 : Int) < (s.size : Int) := by omega
   have hz' : (((s[0].toNat : Nat) : Int) == 48) = true := by rw [hz.2]; rfl
   go_enter Tryz.func52, Tryz.ntmps52
   go_wp2_with fail
   refine bodyPost_ret (results_tmp2 rfl _ _ _) rfl ?_
   exact ⟨0, false, rfl, fun e => by (cases e), fun _ => by
     unfold ni
     rw [if_pos (.inr (.inr ⟨by omega, by
       rw [s0]
       exact UInt8.toNat_inj.1 (by rw [hz.2]; rfl)⟩))], Only.refl _ _⟩
 · have NW := Lib.hid (show ni s.data.toList = if s.data.toList.all lI && decide (kS s.data.toList ≤ 256) then some (kS s.data.toList) else none from by
     unfold ni
     rw [if_neg]
     rintro (h | h | ⟨h, e⟩)
     · omega
     · omega
     · refine hz ⟨by omega, ?_⟩
       rw [s0] at e
       rw [e]
       rfl)
   have START := Lib.hid (show ∃ i : Nat, (Value.int .i64 0 = .int .i64 i) ∧ (Value.int .i64 0 = .int .i64 (kS (s.data.toList.take i))) ∧ i + (s.size + 1) = s.size + 1 ∧ i ≤ s.size ∧ (∀ c ∈ s.data.toList.take i, lI c = true) ∧ Only [] w w from ⟨0, rfl, rfl, by omega, by omega, by simp, Only.refl _ _⟩)
   by_cases h1 : 1 < s.size
   · have h1' : (1 : Int) < (s.size : Int) := by omega
     have hz' : (((s[0].toNat : Nat) : Int) == 48) = false := beq_eq_false_iff_ne.2 (fun e => hz ⟨h1, by omega⟩)
     go_enter Tryz.func52, Tryz.ntmps52
     go_wp2_with fail
     go_loopg [4, 5] (s.size + 1) (fun g s4 s5 wr => ∃ i : Nat, s5 = .int .i64 i ∧ s4 = .int .i64 (kS (s.data.toList.take i)) ∧ i + g = s.size + 1 ∧ i ≤ s.size ∧ (∀ c ∈ s.data.toList.take i, lI c = true) ∧ Only [] w wr)
     case atStart => exact START.out
     case round =>
       obtain ⟨i, rfl, rfl, hg, hi, hd, ho⟩ := hrel
       have OW := Lib.hid ho
       have HD := Lib.hid hd
       have hdv := Tc _ hd
       have hlen : (s.data.toList.take i).length = i := by rw [List.length_take]; omega
       rw [hlen] at hdv
       have aeE : kS (s.data.toList.take i) < 10000 := Nat.lt_of_lt_of_le hdv (by have := Nat.pow_le_pow_right (show 0 < 10 by omega) (show i ≤ 4 by omega); simpa using this)
       obtain ⟨D, hD⟩ : ∃ D, D = kS (s.data.toList.take i) := ⟨_, rfl⟩
       rw [← hD] at aeE ⊢
       have HDE := Lib.hid hD
       clear ho hd hdv hlen hD
       by_cases hin : i < s.size
       · have hin' : (i : Int) < (s.size : Int) := by omega
         have hi0 : (0 : Int) ≤ (i : Int) := by omega
         have hsi : s.data.toList.take (i + 1) = s.data.toList.take i ++ [s[i]] := by
           rw [List.take_succ_eq_append_getElem (by omega)]
           simp
           rfl
         have FQ := Lib.hid hsi
         clear hsi
         obtain ⟨c, hc⟩ : ∃ c : UInt8, c = s[i] := ⟨_, rfl⟩
         rw [← hc] at FQ
         have hcn : s[i].toNat = c.toNat := by rw [hc]
         have HCM := Lib.hid (show c ∈ s.data.toList from by
           have : c ∈ s.data.toList.take (i + 1) := by rw [FQ.out]; simp
           exact List.mem_of_mem_take this)
         have ajh : c.toNat ≤ 255 := by have := c.toNat_lt; omega
         clear hc
         by_cases hlo : c.toNat < 48
         · have Mx : ((s[i].toNat : Nat) : Int) < 48 := by rw [hcn]; omega
           go_wp2_with fail
           refine bodyPost_ret (results_tmp2 rfl _ _ _) rfl ?_
           exact ⟨0, false, rfl, fun e => by (cases e), fun _ => by
             rw [NW.out, if_neg]
             intro h
             simp only [Bool.and_eq_true, List.all_eq_true] at h
             have := h.1 c HCM.out
             simp [lI] at this
             omega, OW.out⟩
         by_cases hhi : 57 < c.toNat
         · have Mx : ¬ ((s[i].toNat : Nat) : Int) < 48 := by rw [hcn]; omega
           have acz : (57 : Int) < ((s[i].toNat : Nat) : Int) := by rw [hcn]; omega
           go_wp2_with fail
           refine bodyPost_ret (results_tmp2 rfl _ _ _) rfl ?_
           exact ⟨0, false, rfl, fun e => by (cases e), fun _ => by
             rw [NW.out, if_neg]
             intro h
             simp only [Bool.and_eq_true, List.all_eq_true] at h
             have := h.1 c HCM.out
             simp [lI] at this
             omega, OW.out⟩
         · have Mx : ¬ ((s[i].toNat : Nat) : Int) < 48 := by rw [hcn]; omega
           have acz : ¬ (57 : Int) < ((s[i].toNat : Nat) : Int) := by rw [hcn]; omega
           have hw1 : wrap64 ((D : Int) * 10) = (D : Int) * 10 := by rw [← IntWalk.i64_left, IntWalk.i64_in _ (by omega)]
           have hw2 : IntKind.u8.wrap (((s[i].toNat : Nat) : Int) - 48) = ((s[i].toNat : Nat) : Int) - 48 := by rw [hcn]; exact wrap_u8 (by omega) (by omega)
           go_wp2_with fail
           go_roundg (s.size - i)
           case measure => omega
           case rel => exact ⟨i + 1, by first | rfl | (congr 1; omega), by rw [FQ.out, zO, ← HDE.out]; congr 1; omega, by omega, by omega, by
             rw [FQ.out]
             intro x hx
             rcases List.mem_append.1 hx with h | h
             · exact HD.out x h
             · rw [List.mem_singleton.1 h]
               simp [lI]
               omega, OW.out⟩
       · have hin' : ¬ (i : Int) < (s.size : Int) := by omega
         have hi : i = s.size := by omega
         subst hi
         have ht : s.data.toList.take s.size = s.data.toList := by rw [← hl0]; exact List.take_length
         have HF := Lib.hid (show (s.data.toList.all lI = true) ∧ D = kS s.data.toList from ⟨List.all_eq_true.2 (by have := HD.out; rwa [ht] at this), by rw [HDE.out, ht]⟩)
         by_cases uI : D ≤ 256
         · have Ya : (D : Int) ≤ 256 := by omega
           go_wp2_with fail
           refine bodyPost_ret (results_tmp2 rfl _ _ _) rfl ?_
           exact ⟨D, true, rfl, fun _ => ⟨by rw [NW.out, HF.out.1, ← HF.out.2]; simp [uI], by omega⟩, fun e => by (cases e), OW.out⟩
         · have Ya : ¬ (D : Int) ≤ 256 := by omega
           go_wp2_with fail
           refine bodyPost_ret (results_tmp2 rfl _ _ _) rfl ?_
           exact ⟨D, false, rfl, fun e => by (cases e), fun _ => by rw [NW.out, ← HF.out.2]; simp [uI], OW.out⟩
   · have h1' : ¬ (1 : Int) < (s.size : Int) := by omega
     go_enter Tryz.func52, Tryz.ntmps52
     go_wp2_with fail
     go_loopg [4, 5] (s.size + 1) (fun g s4 s5 wr => ∃ i : Nat, s5 = .int .i64 i ∧ s4 = .int .i64 (kS (s.data.toList.take i)) ∧ i + g = s.size + 1 ∧ i ≤ s.size ∧ (∀ c ∈ s.data.toList.take i, lI c = true) ∧ Only [] w wr)
     case atStart => exact START.out
     case round =>
       obtain ⟨i, rfl, rfl, hg, hi, hd, ho⟩ := hrel
       have OW := Lib.hid ho
       have HD := Lib.hid hd
       have hdv := Tc _ hd
       have hlen : (s.data.toList.take i).length = i := by rw [List.length_take]; omega
       rw [hlen] at hdv
       have aeE : kS (s.data.toList.take i) < 10000 := Nat.lt_of_lt_of_le hdv (by have := Nat.pow_le_pow_right (show 0 < 10 by omega) (show i ≤ 4 by omega); simpa using this)
       obtain ⟨D, hD⟩ : ∃ D, D = kS (s.data.toList.take i) := ⟨_, rfl⟩
       rw [← hD] at aeE ⊢
       have HDE := Lib.hid hD
       clear ho hd hdv hlen hD
       by_cases hin : i < s.size
       · have hin' : (i : Int) < (s.size : Int) := by omega
         have hi0 : (0 : Int) ≤ (i : Int) := by omega
         have hsi : s.data.toList.take (i + 1) = s.data.toList.take i ++ [s[i]] := by
           rw [List.take_succ_eq_append_getElem (by omega)]
           simp
           rfl
         have FQ := Lib.hid hsi
         clear hsi
         obtain ⟨c, hc⟩ : ∃ c : UInt8, c = s[i] := ⟨_, rfl⟩
         rw [← hc] at FQ
         have hcn : s[i].toNat = c.toNat := by rw [hc]
         have HCM := Lib.hid (show c ∈ s.data.toList from by
           have : c ∈ s.data.toList.take (i + 1) := by rw [FQ.out]; simp
           exact List.mem_of_mem_take this)
         have ajh : c.toNat ≤ 255 := by have := c.toNat_lt; omega
         clear hc
         by_cases hlo : c.toNat < 48
         · have Mx : ((s[i].toNat : Nat) : Int) < 48 := by rw [hcn]; omega
           go_wp2_with fail
           refine bodyPost_ret (results_tmp2 rfl _ _ _) rfl ?_
           exact ⟨0, false, rfl, fun e => by (cases e), fun _ => by
             rw [NW.out, if_neg]
             intro h
             simp only [Bool.and_eq_true, List.all_eq_true] at h
             have := h.1 c HCM.out
             simp [lI] at this
             omega, OW.out⟩
         by_cases hhi : 57 < c.toNat
         · have Mx : ¬ ((s[i].toNat : Nat) : Int) < 48 := by rw [hcn]; omega
           have acz : (57 : Int) < ((s[i].toNat : Nat) : Int) := by rw [hcn]; omega
           go_wp2_with fail
           refine bodyPost_ret (results_tmp2 rfl _ _ _) rfl ?_
           exact ⟨0, false, rfl, fun e => by (cases e), fun _ => by
             rw [NW.out, if_neg]
             intro h
             simp only [Bool.and_eq_true, List.all_eq_true] at h
             have := h.1 c HCM.out
             simp [lI] at this
             omega, OW.out⟩
         · have Mx : ¬ ((s[i].toNat : Nat) : Int) < 48 := by rw [hcn]; omega
           have acz : ¬ (57 : Int) < ((s[i].toNat : Nat) : Int) := by rw [hcn]; omega
           have hw1 : wrap64 ((D : Int) * 10) = (D : Int) * 10 := by rw [← IntWalk.i64_left, IntWalk.i64_in _ (by omega)]
           have hw2 : IntKind.u8.wrap (((s[i].toNat : Nat) : Int) - 48) = ((s[i].toNat : Nat) : Int) - 48 := by rw [hcn]; exact wrap_u8 (by omega) (by omega)
           go_wp2_with fail
           go_roundg (s.size - i)
           case measure => omega
           case rel => exact ⟨i + 1, by first | rfl | (congr 1; omega), by rw [FQ.out, zO, ← HDE.out]; congr 1; omega, by omega, by omega, by
             rw [FQ.out]
             intro x hx
             rcases List.mem_append.1 hx with h | h
             · exact HD.out x h
             · rw [List.mem_singleton.1 h]
               simp [lI]
               omega, OW.out⟩
       · have hin' : ¬ (i : Int) < (s.size : Int) := by omega
         have hi : i = s.size := by omega
         subst hi
         have ht : s.data.toList.take s.size = s.data.toList := by rw [← hl0]; exact List.take_length
         have HF := Lib.hid (show (s.data.toList.all lI = true) ∧ D = kS s.data.toList from ⟨List.all_eq_true.2 (by have := HD.out; rwa [ht] at this), by rw [HDE.out, ht]⟩)
         by_cases uI : D ≤ 256
         · have Ya : (D : Int) ≤ 256 := by omega
           go_wp2_with fail
           refine bodyPost_ret (results_tmp2 rfl _ _ _) rfl ?_
           exact ⟨D, true, rfl, fun _ => ⟨by rw [NW.out, HF.out.1, ← HF.out.2]; simp [uI], by omega⟩, fun e => by (cases e), OW.out⟩
         · have Ya : ¬ (D : Int) ≤ 256 := by omega
           go_wp2_with fail
           refine bodyPost_ret (results_tmp2 rfl _ _ _) rfl ?_
           exact ⟨D, false, rfl, fun e => by (cases e), fun _ => by rw [NW.out, ← HF.out.2]; simp [uI], OW.out⟩
end
end Go.Proofs.YtncnepmgmphanaaGreatDoor
