/- What the reference reads in a line: plain. No condition. -/
import Derived.Test.YtncnepmgmphanaaGreatDoorMg27
import Derived.Test.YtncnepmgmphanaaGreatDoorMg25
set_option linter.unusedVariables false
set_option linter.unusedSimpArgs false
set_option linter.unusedSectionVars false
namespace Go.Proofs.YtncnepmgmphanaaGreatDoor
section
open Go.RowKit
def KE (i : Nat) : UInt8 := UInt8.ofNat (48 + i)
theorem uX {c : UInt8} (h : lI c = true) : ∃ i, i < 10 ∧ c = KE i := by
 simp [lI] at h
 refine ⟨c.toNat - 48, by omega, ?_⟩
 unfold KE
 rw [show 48 + (c.toNat - 48) = c.toNat by omega]
 simp
def Na (l : List UInt8) : Bool := match ni l with
 | some n => decide (Lib.itoa (n : Int) = l)
 | none => true
theorem ajl : ((List.range 10).all fun i => Na [KE i]) = true := by kernel_rfl
theorem ai4 : ((List.range 10).all fun i => (List.range 10).all fun j => Na [KE i, KE j]) = true := by kernel_rfl
set_option maxRecDepth 100000 in
theorem ai7 : ((List.range 10).all fun i => (List.range 10).all fun j => (List.range 10).all fun k => Na [KE i, KE j, KE k]) = true := by kernel_rfl
theorem agx {l : List UInt8} {n : Nat} (h : ni l = some n) (hc : Na l = true) : l = Lib.itoa (n : Int) := by
 unfold Na at hc
 rw [h] at hc
 simpa using (of_decide_eq_true hc).symm
theorem acP {l : List UInt8} {n : Nat} (h : ni l = some n) : l = Lib.itoa (n : Int) ∧ n ≤ 256 := by
 have h0 := h
 unfold ni at h
 split at h
 · cases h
 · rename_i h1
   split at h
   · rename_i h2
     simp only [Bool.and_eq_true, decide_eq_true_eq, List.all_eq_true] at h2
     simp only [Option.some.injEq] at h
     refine ⟨agx h0 ?_, by omega⟩
     have hd := h2.1
     have hv := h2.2
     match l, h1, hd, hv with
     | [], h1, _, _ => exact absurd (.inl rfl) h1
     | [a], _, hd, _ =>
       obtain ⟨i, hi, rfl⟩ := uX (hd a (by simp))
       exact List.all_eq_true.1 ajl i (List.mem_range.2 hi)
     | [a, b], _, hd, _ =>
       obtain ⟨i, hi, rfl⟩ := uX (hd a (by simp))
       obtain ⟨j, hj, rfl⟩ := uX (hd b (by simp))
       exact List.all_eq_true.1 (List.all_eq_true.1 ai4 i (List.mem_range.2 hi)) j (List.mem_range.2 hj)
     | [a, b, c], _, hd, _ =>
       obtain ⟨i, hi, rfl⟩ := uX (hd a (by simp))
       obtain ⟨j, hj, rfl⟩ := uX (hd b (by simp))
       obtain ⟨k, hk, rfl⟩ := uX (hd c (by simp))
       exact List.all_eq_true.1 (List.all_eq_true.1 (List.all_eq_true.1 ai7 i (List.mem_range.2 hi)) j (List.mem_range.2 hj)) k (List.mem_range.2 hk)
     | [a, b, c, d], h1, hd, hv =>
       exfalso
       have ha := hd a (by simp)
       have hb := hd b (by simp)
       have hc := hd c (by simp)
       have hdd := hd d (by simp)
       have hne : a.toNat ≠ 48 := fun e => h1 (.inr (.inr ⟨by simp, by simp; exact UInt8.toNat_inj.1 (by rw [e]; rfl)⟩))
       simp [lI] at ha hb hc hdd
       simp [kS] at hv
       omega
     | a :: b :: c :: d :: e :: r, h1, _, _ => exact absurd (.inr (.inl (by simp))) h1
   · cases h
theorem aac {l : List UInt8} (h : ni l = none) (n : Int) (h0 : 0 ≤ n) (h1 : n ≤ 256) : l ≠ Lib.itoa n := fun e => by
 have := xK n.toNat (by omega)
 rw [show ((n.toNat : Nat) : Int) = n by omega, ← e, h] at this
 cases this
theorem aey {a b : Int} (ha : 0 ≤ a ∧ a ≤ 256) (hb : 0 ≤ b ∧ b ≤ 256) (h : Lib.itoa a = Lib.itoa b) : a = b := by
 have h1 := xK a.toNat (by omega)
 have h2 := xK b.toNat (by omega)
 rw [show ((a.toNat : Nat) : Int) = a by omega] at h1
 rw [show ((b.toNat : Nat) : Int) = b by omega] at h2
 rw [h, h2] at h1
 simp only [Option.some.injEq] at h1
 omega
def lF (ws : List ByteArray) : List UInt8 := ws.flatMap fun w => w.data.toList ++ [32]
theorem VZ (ws : List ByteArray) (w : ByteArray) : lF (ws ++ [w]) = lF ws ++ (w.data.toList ++ [32]) := by simp [lF]
theorem wM : ∀ ws : List ByteArray, ws ≠ [] → lF ws = iH (ws.map (·.data.toList)) ++ [32]
 | [], h => absurd rfl h
 | [w], _ => by simp [lF, iH]
 | w :: v :: ws, _ => by
   have h := wM (v :: ws) (by simp)
   have e : lF (w :: v :: ws) = (w.data.toList ++ [32]) ++ lF (v :: ws) := by simp [lF]
   rw [e, h]
   simp [iH]
theorem G8 {s : ByteArray} {ws : List ByteArray} (h1 : ws ≠ []) (h2 : ∀ w ∈ ws, (32 : UInt8) ∉ w.data.toList) (h3 : lF ws = s.data.toList ++ [32]) : ws = dA s := by
 rw [wM ws h1] at h3
 have h4 := (List.append_inj' h3 rfl).1
 rw [NG (ws := ws.map (·.data.toList)) (by simpa using h1) (fun w hw => by obtain ⟨x, hx, rfl⟩ := List.mem_map.1 hw; exact h2 x hx) h4.symm, List.map_map]
 conv => lhs; rw [← List.map_id ws]
 apply List.map_congr_left
 intro w _
 simp
def numsL (e : cB) (f : iN) : List Int := [e.worker] ++ (if f.t then [e.task] else []) ++ (if f.o then [e.other] else []) ++ (if f.l then [e.level] else [])
theorem V4 (e : cB) (f : iN) : iw e f = f.word :: (numsL e f).map Lib.itoa := by
 simp only [iw, numsL]
 cases f.t <;> cases f.o <;> cases f.l <;> simp
theorem Qa {e : cB} (h : bW e = true) (f : iN) : ∀ n ∈ numsL e f, 0 ≤ n ∧ n ≤ 256 := fun n hn => by
 obtain ⟨_, _, h3⟩ := j3 h
 have a0 := h3 0 (by omega)
 have a1 := h3 1 (by omega)
 have a2 := h3 2 (by omega)
 have a3 := h3 3 (by omega)
 simp only [gB] at a0 a1 a2 a3
 simp at a0 a1 a2 a3
 simp only [numsL, List.mem_append, List.mem_cons, List.not_mem_nil, or_false] at hn
 rcases hn with ((h | h) | h) | h
 · rw [h]; exact a0
 · split at h
   · rw [List.mem_singleton.1 h]; exact a1
   · cases h
 · split at h
   · rw [List.mem_singleton.1 h]; exact a2
   · cases h
 · split at h
   · rw [List.mem_singleton.1 h]; exact a3
   · cases h
theorem wJ {s : ByteArray} {e : cB} (h : eD s = some e) : bW e = true ∧ l9 e = s.data.toList ∧ ∃ k : Nat, k < 19 ∧ e.kind = (k : Int) + 1 ∧ (dA s).map (·.data.toList) = (aI k).word :: (numsL e (aI k)).map Lib.itoa := by
 obtain ⟨h1, h2⟩ := acQ h
 obtain ⟨p1, p2, _⟩ := j3 h1
 refine ⟨h1, h2, (e.kind - 1).toNat, by omega, by omega, ?_⟩
 have e1 : s.data.toList = iH (iw e (aI (e.kind - 1).toNat)) := by rw [← h2]; exact xI e _
 rw [wu (by simp [iw]) (fun w hw => (M4 h1 w hw).1) e1, V4]
def gY (b : Bool) (ns : List Int) (at' : Nat) : Int × Nat := if b && decide (at' < ns.length) then (ns.getD at' 0, at' + 1) else (0, at')
def nz (k : Nat) (ns : List Int) : cB :=
 ⟨(k : Int) + 1, ns.getD 0 0, (gY (aI k).t ns 1).1, (gY (aI k).o ns (gY (aI k).t ns 1).2).1, (gY (aI k).l ns (gY (aI k).o ns (gY (aI k).t ns 1).2).2).1⟩
theorem Ro {k : Nat} {e : cB} (hk : e.kind = (k : Int) + 1) (hz : (aI k).t = false → e.task = 0) (ho : (aI k).o = false → e.other = 0) (hl : (aI k).l = false → e.level = 0) : nz k (numsL e (aI k)) = e := by
 rcases e with ⟨K, a, t, o, l⟩
 simp only at hk hz ho hl
 subst hk
 simp only [nz, numsL]
 cases h1 : (aI k).t <;> cases h2 : (aI k).o <;> cases h3 : (aI k).l <;> simp [gY, h1, h2, h3] at hz ho hl ⊢ <;> simp_all
theorem IA {b : Bool} {ns : List Int} {j : Nat} (h : ∀ n ∈ ns, 0 ≤ n ∧ n ≤ 256) : 0 ≤ (gY b ns j).1 ∧ (gY b ns j).1 ≤ 256 ∧ (b = false → (gY b ns j).1 = 0) := by
 unfold gY
 split
 · rename_i hc
   simp only [Bool.and_eq_true, decide_eq_true_eq] at hc
   have := h (ns.getD j 0) (by rw [List.getD_eq_getElem?_getD, List.getElem?_eq_getElem hc.2]; exact List.getElem_mem _)
   exact ⟨this.1, this.2, fun e => by rw [e] at hc; cases hc.1⟩
 · exact ⟨by simp, by simp, fun _ => rfl⟩
theorem zm {k : Nat} {ns : List Int} (hk : k < 19) (hp : 0 < ns.length) (h : ∀ n ∈ ns, 0 ≤ n ∧ n ≤ 256) : bW (nz k ns) = true := by
 have e0 : (nz k ns).kind = (k : Int) + 1 := rfl
 have e1 : ((nz k ns).kind - 1).toNat = k := by rw [e0]; omega
 have h0 := h (ns.getD 0 0) (by rw [List.getD_eq_getElem?_getD, List.getElem?_eq_getElem hp]; exact List.getElem_mem _)
 have ht := IA (b := (aI k).t) (j := 1) h
 have ho := IA (b := (aI k).o) (j := (gY (aI k).t ns 1).2) h
 have hl := IA (b := (aI k).l) (j := (gY (aI k).o ns (gY (aI k).t ns 1).2).2) h
 simp only [bW, dI, e1, Bool.and_eq_true, decide_eq_true_eq, Bool.or_eq_true]
 have z : ∀ (b : Bool) (x : Int), (b = false → x = 0) → (b = true ∨ x = 0) := fun b x h => by cases b with
   | true => exact .inl rfl
   | false => exact .inr (h rfl)
 exact ⟨⟨⟨⟨⟨by rw [e0]; omega, by rw [e0]; omega⟩, ⟨⟨h0.1, h0.2⟩, by simp⟩⟩, ⟨⟨ht.1, ht.2.1⟩, z _ _ ht.2.2⟩⟩, ⟨⟨ho.1, ho.2.1⟩, z _ _ ho.2.2⟩⟩, ⟨⟨hl.1, hl.2.1⟩, z _ _ hl.2.2⟩⟩
theorem ZL {j k : Nat} (hj : j < 19) (hk : k < 19) (h : gV j = gV k) : j = k := by
 have h1 := (tV j hj).1
 have h2 := (tV k hk).1
 rw [h, h2] at h1
 exact (Option.some.inj h1).symm
theorem xD : ∀ (a b : List Int), (∀ n ∈ a, 0 ≤ n ∧ n ≤ 256) → (∀ n ∈ b, 0 ≤ n ∧ n ≤ 256) → a.map Lib.itoa = b.map Lib.itoa → a = b
 | [], [], _, _, _ => rfl
 | [], _ :: _, _, _, h => by simp at h
 | _ :: _, [], _, _, h => by simp at h
 | x :: a, y :: b, ha, hb, h => by
   simp only [List.map_cons, List.cons.injEq] at h
   rw [aey (ha x (by simp)) (hb y (by simp)) h.1, xD a b (fun n hn => ha n (by simp [hn])) (fun n hn => hb n (by simp [hn])) h.2]
theorem Vo {s : ByteArray} {i : Nat} (h1 : 1 ≤ i) (h2 : i < (dA s).length) (h : ni ((dA s).getD i ByteArray.empty).data.toList = none) : eD s = none := by
 cases hr : eD s with
 | none => rfl
 | some e =>
   exfalso
   obtain ⟨hv, _, k, hk, _, hw⟩ := wJ hr
   obtain ⟨i, rfl⟩ : ∃ j, i = j + 1 := ⟨i - 1, by omega⟩
   have hg : ((dA s).map (·.data.toList))[i + 1]? = some ((dA s).getD (i + 1) ByteArray.empty).data.toList := by
     rw [List.getElem?_map, List.getD_eq_getElem?_getD, List.getElem?_eq_getElem h2]; rfl
   rw [hw, List.getElem?_cons_succ, List.getElem?_map] at hg
   cases hx : (numsL e (aI k))[i]? with
   | none => rw [hx] at hg; cases hg
   | some n =>
     rw [hx] at hg
     simp only [Option.map_some, Option.some.injEq] at hg
     have hn := Qa hv _ n (List.mem_of_getElem? hx)
     exact aac h n hn.1 hn.2 hg.symm
theorem Q4 {s : ByteArray} {ns : List Int} (hn : ((dA s).map (·.data.toList)).tail = ns.map Lib.itoa) (h : ∀ j, j < 19 → gV j ≠ (dA s).getD 0 ByteArray.empty ∨ ns = []) : eD s = none := by
 cases hr : eD s with
 | none => rfl
 | some e =>
   exfalso
   obtain ⟨hv, _, k, hk, _, hw⟩ := wJ hr
   rw [hw, List.tail_cons] at hn
   rcases h k hk with h | h
   · apply h
     have hp := lX s
     cases hws : dA s with
     | nil => rw [hws] at hp; simp at hp
     | cons w r =>
       rw [hws] at hw
       simp only [List.map_cons, List.cons.injEq] at hw
       simp only [List.getD_cons_zero]
       unfold gV
       rw [← hw.1]
   · rw [h] at hn
     simp [numsL] at hn
theorem YL {s : ByteArray} {ns : List Int} {k : Nat} (hk : k < 19) (hp : 0 < ns.length) (uI : ∀ n ∈ ns, 0 ≤ n ∧ n ≤ 256) (hn : ((dA s).map (·.data.toList)).tail = ns.map Lib.itoa) (h : gV k = (dA s).getD 0 ByteArray.empty) :
   (l9 (nz k ns) = s.data.toList → eD s = some (nz k ns)) ∧ (l9 (nz k ns) ≠ s.data.toList → eD s = none) := by
 refine ⟨fun hb => ?_, fun hb => ?_⟩
 · have := acp (zm hk hp uI)
   rw [hb] at this
   simpa using this
 · cases hr : eD s with
   | none => rfl
   | some e =>
     exfalso
     obtain ⟨hv, hb2, k', hk', hke, hw⟩ := wJ hr
     rw [hw, List.tail_cons] at hn
     have hkk : k' = k := by
       refine ZL hk' hk ?_
       rw [h]
       have hpp := lX s
       cases hws : dA s with
       | nil => rw [hws] at hpp; simp at hpp
       | cons w r =>
         rw [hws] at hw
         simp only [List.map_cons, List.cons.injEq] at hw
         simp only [List.getD_cons_zero]
         unfold gV
         rw [← hw.1]
     subst hkk
     have hns := xD _ _ (Qa hv (aI k')) uI hn
     have hv2 := hv
     simp only [bW, dI, Bool.and_eq_true, decide_eq_true_eq, Bool.or_eq_true] at hv2
     have ek : (e.kind - 1).toNat = k' := by omega
     rw [ek] at hv2
     refine hb ?_
     rw [← hns, Ro hke (fun hz => by have := hv2.1.1.2.2; rw [hz] at this; simpa using this) (fun hz => by have := hv2.1.2.2; rw [hz] at this; simpa using this) (fun hz => by have := hv2.2.2; rw [hz] at this; simpa using this), hb2]
end
section
open Go.RowKit
theorem acs {L : List UInt8} {a i : Nat} (ha : a ≤ i) (hi : L[i]? = some 32) : L.take a ++ ((L.take i).drop a ++ [32]) = L.take (i + 1) := by
 have hl : i < L.length := (List.getElem?_eq_some_iff.1 hi).1
 have e : L[i] = 32 := (List.getElem?_eq_some_iff.1 hi).2
 rw [List.take_succ_eq_append_getElem hl, e, ← List.append_assoc]
 congr 1
 conv => rhs; rw [← List.take_append_drop a (L.take i)]
 rw [List.take_take, Nat.min_eq_left ha]
theorem ext_list (s : ByteArray) (a i : Nat) : (s.extract a i).data.toList = (s.data.toList.take i).drop a := by
 rw [ByteArray.data_extract, Array.toList_extract, List.extract_eq_take_drop, List.take_drop]
 by_cases h : a ≤ i
 · rw [show a + (i - a) = i by omega]
 · rw [List.drop_eq_nil_of_le (by rw [List.length_take]; omega), List.drop_eq_nil_of_le (by rw [List.length_take]; omega)]
def mG (s : ByteArray) : List UInt8 := s.data.toList ++ [32]
theorem Nq (s : ByteArray) : (mG s).length = s.size + 1 := by
 unfold mG
 rw [List.length_append, ← Lib.size_eq]
 rfl
theorem Mv (s : ByteArray) : (mG s)[s.size]? = some 32 := by
 unfold mG
 rw [Lib.size_eq]
 exact List.getElem?_concat_length
theorem agW (s : ByteArray) {i : Nat} (h : i < s.size) : (mG s)[i]? = some s[i] := by
 have hl : s.data.toList.length = s.size := (Lib.size_eq s).symm
 unfold mG
 rw [List.getElem?_append_left (by omega), List.getElem?_eq_getElem (by omega)]
 simp
 rfl
theorem J6 (s : ByteArray) {i : Nat} (h : i ≤ s.size) : (mG s).take i = s.data.toList.take i := by
 have hl : s.data.toList.length = s.size := (Lib.size_eq s).symm
 unfold mG
 rw [List.take_append_of_le_length (by omega)]
theorem MO {s : ByteArray} {a i : Nat} (hi : i ≤ s.size) (h : ∀ j, a ≤ j → j < i → (mG s)[j]? ≠ some 32) : (32 : UInt8) ∉ (s.extract a i).data.toList := by
 rw [ext_list, ← J6 s hi]
 intro hm
 obtain ⟨j, hj, e⟩ := List.getElem_of_mem hm
 rw [List.getElem_drop, List.getElem_take] at e
 rw [List.length_drop, List.length_take] at hj
 refine h (a + j) (by omega) (by omega) ?_
 rw [List.getElem?_eq_getElem (by omega), e]
theorem aga : (Tryz.prog.info? 9).map (fun i => (i.zero, i.size, i.bytes)) = some (some (.string ⟨#[]⟩), 1, 16) := by kernel_rfl
def aaU (w : World) (ws : List ByteArray) (e : Ending) (w' : World) : Prop :=
 ∃ g cap, e = .returned (.slice (some ⟨g, 0, none⟩) ws.length cap) ∧ (∀ k, k < ws.length → w'.cell? ⟨g, k, none⟩ = some (.string (ws.getD k ByteArray.empty))) ∧ Only [] w w'
theorem VM {w : World} {B : Nat} {v : Value} {ws : List ByteArray} (h : w.ownsRow B 9 1 v ws.length (ws.map Value.string)) (hp : 0 < ws.length) : ∃ g cap, v = .slice (some ⟨g, 0, none⟩) ws.length cap ∧ ∀ k, k < ws.length → w.cell? ⟨g, k, none⟩ = some (.string (ws.getD k ByteArray.empty)) := by
 rcases h.2 with ⟨_, h0⟩ | ⟨g, cap, cur, hv, hb, hh, hn, hm, hs, ht⟩
 · omega
 · refine ⟨g, cap, hv, fun k hk => ?_⟩
   rw [aa hh]
   have h2 : (ws.map Value.string)[k]? = some (.string (ws.getD k ByteArray.empty)) := by
     rw [List.getElem?_map, List.getD_eq_getElem?_getD, List.getElem?_eq_getElem hk]
     rfl
   rw [← ht, List.getElem?_take] at h2
   split at h2
   · simpa using h2
   · cases h2
set_option maxRecDepth 100000 in
set_option maxHeartbeats 4000000 in
theorem ab9 (w : World) (s : ByteArray) (hs : s.size ≤ 4194304) : Calls Tryz.prog 51 #[.string s] w (aaU w (dA s)) := by
 obtain ⟨i0, hi0, hz0, hz1, hz2⟩ := info_parts aga
 obtain ⟨n, hn⟩ : ∃ n, n = s.size := ⟨_, rfl⟩
 have HN := Lib.hid hn
 have hn2 : n ≤ 4194304 := by omega
 go_enter Tryz.func51, Tryz.ntmps51
 go_wp2_with fail
 go_loopw [3, 4, 5] (fun s3 s4 s5 wr => ∃ (ws : List ByteArray) (p i : Nat) (ao : Option Addr) (cap : Nat), s3 = .slice ao ws.length cap ∧ s4 = .int .i64 p ∧ s5 = .int .i64 i ∧ i ≤ n + 1 ∧ p ≤ i ∧ ws.length ≤ i ∧ wr.ownsRow w.heap.size 9 1 (.slice ao ws.length cap) ws.length (ws.map Value.string) ∧ ((∀ x ∈ ws, (32 : UInt8) ∉ x.data.toList) ∧ lF ws = (mG s).take p ∧ (∀ j, p ≤ j → j < i → (mG s)[j]? ≠ some 32)) ∧ Only [] w wr) (fun _ _ r _ => n + 1 - (intOf r).toNat)
 case atStart => exact ⟨[], 0, 0, none, 0, rfl, rfl, rfl, by omega, by omega, by simp, World.ownsRow_nil _ _ _ _, ⟨by simp, by simp [lF], fun j _ h => absurd h (Nat.not_lt_zero _)⟩, Only.refl _ _⟩
 case round =>
   obtain ⟨ws, p, i, ao, cap, rfl, rfl, rfl, hi, hp, hw, hown, hJ, ho⟩ := hrel
   obtain ⟨w3, hw3⟩ : ∃ w3, w3 = wr := ⟨_, rfl⟩
   subst hw3
   have OWN := Lib.hid hown
   have HJ := Lib.hid hJ
   have O3 := Lib.hid ho
   clear hown hJ ho
   obtain ⟨m, hm⟩ : ∃ m, m = ws.length := ⟨_, rfl⟩
   have HM := Lib.hid hm
   rw [← hm] at OWN hw ⊢
   clear hm
   by_cases hin : i ≤ n
   · have hin1 : (i : Int) ≤ (n : Int) := by omega
     have hin2 : (i : Int) ≤ (s.size : Int) := by omega
     have aer : (0 : Int) ≤ (i : Int) := by omega
     have hp0 : (0 : Int) ≤ (p : Int) := by omega
     have hpi : (p : Int) ≤ (i : Int) := by omega
     have hsz := O3.out.size
     have hm3 : m ≤ 4194304 := by omega
     obtain ⟨X, hX⟩ : ∃ X, X = s.extract p i := ⟨_, rfl⟩
     have NB : Hid ((32 : UInt8) ∉ X.data.toList) := Lib.hid (by rw [hX]; exact MO (by omega) HJ.out.2.2)
     have zG := Lib.hid (vI (w := w3.alloc (.cells #[.string X] 9)) (b := w3.heap.size) (l := [.string X]) (T := 9) (f := (0, 0)) (blk_alloc_new _ _))
     have NXT := Lib.hid (fun (hb : (mG s)[i]? = some 32) => show (∀ x ∈ ws ++ [X], (32 : UInt8) ∉ x.data.toList) ∧ lF (ws ++ [X]) = (mG s).take (i + 1) ∧ (∀ j, i + 1 ≤ j → j < i + 1 → (mG s)[j]? ≠ some 32) from ⟨fun x hx => by
         rcases List.mem_append.1 hx with h | h
         · exact HJ.out.1 x h
         · rw [List.mem_singleton.1 h]; exact NB.out, by
         rw [VZ, HJ.out.2.1, hX, ext_list, ← J6 s (by omega)]
         exact acs hp hb, fun j h1 h2 => absurd h2 (by omega)⟩)
     have XE := Lib.hid hX
     by_cases hend : i = n
     · have hend' : ((i : Int) == (s.size : Int)) = true := by simp; omega
       have hb : (mG s)[i]? = some 32 := by rw [hend, hn]; exact Mv s
       have NX := Lib.hid (NXT.out hb)
       have XE := Lib.hid (show X = s.extract p s.size from by rw [hX, hend, hn])
       clear hX hb
       go_wp2_with (at_builtin; rw [← XE.out]; refine wpList_append_own _ rfl _ _ 36 rfl w.heap.size 9 i0 (.string ⟨#[]⟩) 1 16 Tryz.underlying36 hi0 hz0 hz1 hz2 rfl (by decide) _ _ _ rfl (OWN.out.alloc _) ⟨w3.heap.size, 0, none⟩ 1 1 [.string X] rfl rfl zG.out (by simp [Value.oneCell']) (by unfold maxLen; omega) (by omega) (by first | omega | (simp; omega)) ?_)
       intro v' w7 hown' hgrow _
       obtain ⟨oQ, jb, hv7⟩ : ∃ oQ jb, v' = .slice oQ (m + 1) jb := by
         rcases hown'.2 with ⟨_, h0⟩ | ⟨g, jb, cur, hv, _⟩
         · omega
         · exact ⟨_, _, hv⟩
       rw [hv7] at hown' ⊢
       clear hv7
       have Fg := Lib.hid hown'
       have O7 : Hid (Only [] w w7) := Lib.hid ((O3.out.alloc _).grown hgrow (fun q hq => .inr (OWN.out.lt q hq).1))
       clear hown' hgrow
       go_wp2_with fail
       go_roundw
       case rel => exact ⟨ws ++ [X], i + 1, i + 1, oQ, jb, by rw [List.length_append, ← HM.out]; rfl, by go_num, by go_num, by omega, by omega, by rw [List.length_append, ← HM.out]; simp; omega, by
         rw [List.map_append, List.length_append, ← HM.out]; exact Fg.out, NX.out, O7.out⟩
       case measure => simp [intOf]; omega
     · have hend' : ((i : Int) == (s.size : Int)) = false := by simp; omega
       have hin' : (i : Int) < (s.size : Int) := by omega
       have ak3 : i < s.size := by omega
       have hat := agW s ak3
       by_cases h32 : s[i].toNat = 32
       · have ale : (((s[i].toNat : Nat) : Int) == 32) = true := by rw [h32]; rfl
         have hb : (mG s)[i]? = some 32 := by rw [hat]; exact congrArg some (UInt8.toNat_inj.1 h32)
         have NX := Lib.hid (NXT.out hb)
         clear hX hb hat
         go_wp2_with (at_builtin; rw [← XE.out]; refine wpList_append_own _ rfl _ _ 36 rfl w.heap.size 9 i0 (.string ⟨#[]⟩) 1 16 Tryz.underlying36 hi0 hz0 hz1 hz2 rfl (by decide) _ _ _ rfl (OWN.out.alloc _) ⟨w3.heap.size, 0, none⟩ 1 1 [.string X] rfl rfl zG.out (by simp [Value.oneCell']) (by unfold maxLen; omega) (by omega) (by first | omega | (simp; omega)) ?_)
         intro v' w7 hown' hgrow _
         obtain ⟨oQ, jb, hv7⟩ : ∃ oQ jb, v' = .slice oQ (m + 1) jb := by
           rcases hown'.2 with ⟨_, h0⟩ | ⟨g, jb, cur, hv, _⟩
           · omega
           · exact ⟨_, _, hv⟩
         rw [hv7] at hown' ⊢
         clear hv7
         have Fg := Lib.hid hown'
         have O7 : Hid (Only [] w w7) := Lib.hid ((O3.out.alloc _).grown hgrow (fun q hq => .inr (OWN.out.lt q hq).1))
         clear hown' hgrow
         go_wp2_with fail
         go_roundw
         case rel => exact ⟨ws ++ [X], i + 1, i + 1, oQ, jb, by rw [List.length_append, ← HM.out]; rfl, by go_num, by go_num, by omega, by omega, by rw [List.length_append, ← HM.out]; simp; omega, by
           rw [List.map_append, List.length_append, ← HM.out]; exact Fg.out, NX.out, O7.out⟩
         case measure => simp [intOf]; omega
       · have ale : (((s[i].toNat : Nat) : Int) == 32) = false := beq_eq_false_iff_ne.2 (fun e => h32 (by omega))
         have NX := Lib.hid (show ∀ j, p ≤ j → j < i + 1 → (mG s)[j]? ≠ some 32 from fun j h1 h2 => by
           by_cases hj : j = i
           · rw [hj, hat]
             intro e
             apply h32
             rw [Option.some.inj e]
             rfl
           · exact HJ.out.2.2 j h1 (by omega))
         clear hX hat
         go_wp2_with fail
         go_roundw
         case rel => exact ⟨ws, p, i + 1, ao, cap, by rw [← HM.out], rfl, by go_num, by omega, by omega, by rw [← HM.out]; omega, by rw [← HM.out]; exact OWN.out, ⟨HJ.out.1, HJ.out.2.1, NX.out⟩, O3.out⟩
         case measure => simp [intOf]; omega
   · have hin1 : ¬ (i : Int) ≤ (s.size : Int) := by omega
     have hii : i = n + 1 := by omega
     have E := Lib.hid (show ws = dA s from by
       have hpn : p = n + 1 := by
         refine Classical.byContradiction fun hne => ?_
         exact HJ.out.2.2 n (by omega) (by omega) (by rw [hn]; exact Mv s)
       have hj := HJ.out.2.1
       rw [hpn, List.take_of_length_le (by rw [Nq]; omega)] at hj
       refine G8 (fun e => ?_) HJ.out.1 hj
       rw [e] at hj
       have := congrArg List.length hj
       rw [Nq] at this
       simp [lF] at this)
     go_wp2_with fail
     go_ret
     obtain ⟨g, cap', hv, hc⟩ := VM (by rw [← HM.out]; exact OWN.out) (by rw [E.out]; exact lX s)
     rw [← E.out]
     refine ⟨g, cap', ?_, hc, O3.out⟩
     rw [← hv]
     rfl
end
end Go.Proofs.YtncnepmgmphanaaGreatDoor
