/- The text of events is parsed as these events, and a text that is parsed is the text of its events: plain. No condition. -/
import Derived.Test.YtncnepmgmphanaaGreatDoorMg27
import Derived.Test.YtncnepmgmphanaaGreatDoorMg26
import Derived.Test.YtncnepmgmphanaaGreatDoorEvChg
import Derived.Deep.DeepCutAuto
set_option linter.unusedVariables false
set_option linter.unusedSimpArgs false
set_option linter.unusedSectionVars false
namespace Go.Proofs.YtncnepmgmphanaaGreatDoor
open Go.RowKit
def joinW : List (List UInt8) → List UInt8
  | [] => []
  | [w] => w
  | w :: v :: ws => w ++ 32 :: joinW (v :: ws)
theorem index_no (c : UInt8) : ∀ w : List UInt8, c ∉ w → Lib.indexByte w c = -1
  | [], _ => rfl
  | b :: w, h => by
    have h1 : b ≠ c := fun e => h (by simp [e])
    have h2 := index_no c w fun hm => h (by simp [hm])
    unfold Lib.indexByte
    rw [if_neg (by simpa using h1), if_pos (by simp [h2])]
theorem index_at (c : UInt8) (r : List UInt8) : ∀ w : List UInt8, c ∉ w → Lib.indexByte (w ++ c :: r) c = w.length
  | [], _ => by unfold Lib.indexByte; simp
  | b :: w, h => by
    have h1 : b ≠ c := fun e => h (by simp [e])
    have h2 := index_at c r w fun hm => h (by simp [hm])
    rw [List.cons_append]
    unfold Lib.indexByte
    rw [if_neg (by simpa using h1), h2, if_neg (by
      have : ((w.length : Int) == -1) = false := by first | (simp; done) | (simp; omega)
      simp [this])]
    simp
theorem split_join : ∀ (ws : List (List UInt8)) (k : Nat), ws ≠ [] → (∀ w ∈ ws, (32 : UInt8) ∉ w) → ws.length ≤ k + 1 → Lib.splitK [32] 0 k (joinW ws) = ws
  | [], _, h, _, _ => absurd rfl h
  | [w], k, _, h, _ => by
    cases k with
    | zero => rfl
    | succ k =>
      unfold Lib.splitK joinW
      rw [Lib.index_one, index_no 32 w (h w (by simp))]
      rfl
  | w :: v :: ws, k, _, h, hl => by
    cases k with
    | zero => simp at hl
    | succ k =>
      have h2 := split_join (v :: ws) k (by simp) (fun x hx => h x (by simp [hx])) (by simp at hl ⊢; omega)
      unfold Lib.splitK
      rw [joinW, Lib.index_one, index_at 32 _ w (h w (by simp))]
      rw [if_neg (by
        have : ((w.length : Int) == -1) = false := by first | (simp; done) | (simp; omega)
        simp [this])]
      have e1 : (w ++ 32 :: joinW (v :: ws)).take ((w.length : Int).toNat + 0) = w := by simp
      have e2 : (w ++ 32 :: joinW (v :: ws)).drop ((w.length : Int).toNat + [(32 : UInt8)].length) = joinW (v :: ws) := by simp
      rw [e1, e2, h2]
theorem join_count : ∀ (ws : List (List UInt8)), ws ≠ [] → (∀ w ∈ ws, (32 : UInt8) ∉ w) → (joinW ws).count 32 + 1 = ws.length
  | [], h, _ => absurd rfl h
  | [w], _, h => by
    unfold joinW
    rw [List.count_eq_zero.2 (h w (by simp))]
    rfl
  | w :: v :: ws, _, h => by
    have h2 := join_count (v :: ws) (by simp) fun x hx => h x (by simp [hx])
    rw [joinW, List.count_append, List.count_cons, List.count_eq_zero.2 (h w (by simp))]
    simp only [List.length_cons] at h2 ⊢
    simp
    omega
theorem join_ex : ∀ s : List UInt8, ∃ ws, ws ≠ [] ∧ (∀ w ∈ ws, (32 : UInt8) ∉ w) ∧ s = joinW ws
  | [] => ⟨[[]], by simp, by simp, rfl⟩
  | c :: r => by
    obtain ⟨ws, h1, h2, h3⟩ := join_ex r
    match ws, h1 with
    | w :: ws', _ =>
      by_cases hc : c = 32
      · subst hc
        refine ⟨[] :: w :: ws', by simp, fun x hx => ?_, by rw [joinW, ← h3]; rfl⟩
        rcases List.mem_cons.1 hx with rfl | hx
        · simp
        · exact h2 x hx
      · refine ⟨(c :: w) :: ws', by simp, fun x hx => ?_, ?_⟩
        · rcases List.mem_cons.1 hx with rfl | hx
          · intro hm
            rcases List.mem_cons.1 hm with e | e
            · exact hc e.symm
            · exact h2 w (by simp) e
          · exact h2 x (by simp [hx])
        · rw [h3]
          cases ws' with
          | nil => rfl
          | cons v vs => rfl
theorem words_join {ws : List (List UInt8)} {s : ByteArray} (h1 : ws ≠ []) (h2 : ∀ w ∈ ws, (32 : UInt8) ∉ w) (h3 : s.data.toList = joinW ws) : (wordsOf s).map (·.data.toList) = ws := by
  unfold wordsOf
  rw [Lib.splitB_data]
  have e : blank.data.toList = [32] := rfl
  rw [e, h3]
  refine split_join ws _ h1 h2 ?_
  show ws.length ≤ Lib.count s.data.toList blank.data.toList + 1
  rw [e, h3, Lib.count_one, join_count ws h1 h2]
  exact Nat.le_refl _
theorem words_ex (s : ByteArray) : s.data.toList = joinW ((wordsOf s).map (·.data.toList)) ∧ ∀ w ∈ wordsOf s, (32 : UInt8) ∉ w.data.toList := by
  obtain ⟨ws, h1, h2, h3⟩ := join_ex s.data.toList
  have h4 := words_join h1 h2 h3
  refine ⟨by rw [h4, h3], fun w hw => h2 _ ?_⟩
  rw [← h4]
  exact List.mem_map_of_mem hw
theorem words_eq {ws : List (List UInt8)} {s : ByteArray} (h1 : ws ≠ []) (h2 : ∀ w ∈ ws, (32 : UInt8) ∉ w) (h3 : s.data.toList = joinW ws) : wordsOf s = ws.map fun w => ⟨w.toArray⟩ := by
  have h := words_join h1 h2 h3
  rw [← h, List.map_map]
  conv => lhs; rw [← List.map_id (wordsOf s)]
  apply List.map_congr_left
  intro w _
  simp
theorem atoi_itoa (n : Int) (h0 : 0 ≤ n) (h1 : n ≤ 256) : atoiN (Lib.itoa n) = some n ∧ (32 : UInt8) ∉ Lib.itoa n ∧ (10 : UInt8) ∉ Lib.itoa n := by
  have h : (List.range 257).all (fun n => decide (atoiN (Lib.itoa (n : Int)) = some (n : Int)) && decide ((32 : UInt8) ∉ Lib.itoa (n : Int)) && decide ((10 : UInt8) ∉ Lib.itoa (n : Int))) = true := by kernel_rfl
  have := List.all_eq_true.1 h n.toNat (List.mem_range.2 (by omega))
  rw [show ((n.toNat : Nat) : Int) = n by omega] at this
  simp only [Bool.and_eq_true, decide_eq_true_eq] at this
  exact ⟨this.1.1, this.1.2, this.2⟩
theorem form_word (k : Nat) (hk : k < 19) : formOf (wordB k) 19 = some k ∧ (32 : UInt8) ∉ (formAt k).word ∧ (10 : UInt8) ∉ (formAt k).word := by
  have h : (List.range 19).all (fun k => decide (formOf (wordB k) 19 = some k) && decide ((32 : UInt8) ∉ (formAt k).word) && decide ((10 : UInt8) ∉ (formAt k).word)) = true := by kernel_rfl
  have := List.all_eq_true.1 h k (List.mem_range.2 hk)
  simp only [Bool.and_eq_true, decide_eq_true_eq] at this
  exact ⟨this.1.1, this.1.2, this.2⟩
theorem formOf_eq {w0 : ByteArray} {k : Nat} : ∀ n, n ≤ 19 → formOf w0 n = some k → wordB k = w0 ∧ k < 19
  | 0, _, h => by cases h
  | n + 1, hn, h => by
    unfold formOf at h
    split at h
    · rename_i e
      cases h
      exact ⟨e, by omega⟩
    · exact formOf_eq n (by omega) h
def lineW (e : Evt) (f : EForm) : List (List UInt8) := [f.word, Lib.itoa e.worker] ++ (if f.t then [Lib.itoa e.task] else []) ++ (if f.o then [Lib.itoa e.other] else []) ++ (if f.l then [Lib.itoa e.level] else [])
theorem line_join (e : Evt) (f : EForm) : lineTo e f 4 = joinW (lineW e f) := by
  simp only [lineTo, segB, usAt, flAt, lineW]
  cases f.t <;> cases f.o <;> cases f.l <;> simp [joinW]
theorem lineW_ok {e : Evt} (h : validB e = true) : ∀ w ∈ lineW e (formAt (e.kind - 1).toNat), (32 : UInt8) ∉ w ∧ (10 : UInt8) ∉ w := fun w hw => by
  obtain ⟨h1, h2, h3⟩ := valid_parts h
  have fw := form_word (e.kind - 1).toNat (by omega)
  have a0 := h3 0 (by omega)
  have a1 := h3 1 (by omega)
  have a2 := h3 2 (by omega)
  have a3 := h3 3 (by omega)
  simp only [flAt] at a0 a1 a2 a3
  simp at a0 a1 a2 a3
  have key : w = (formAt (e.kind - 1).toNat).word ∨ w = Lib.itoa e.worker ∨ w = Lib.itoa e.task ∨ w = Lib.itoa e.other ∨ w = Lib.itoa e.level := by
    simp only [lineW, List.mem_append, List.mem_cons, List.not_mem_nil, or_false] at hw
    rcases hw with ((((h | h) | h) | h) | h)
    · exact .inl h
    · exact .inr (.inl h)
    · split at h
      · exact .inr (.inr (.inl (by simpa using h)))
      · cases h
    · split at h
      · exact .inr (.inr (.inr (.inl (by simpa using h))))
      · cases h
    · split at h
      · exact .inr (.inr (.inr (.inr (by simpa using h))))
      · cases h
  rcases key with rfl | rfl | rfl | rfl | rfl
  · exact fw.2
  · exact (atoi_itoa _ a0.1 a0.2).2
  · exact (atoi_itoa _ a1.1 a1.2).2
  · exact (atoi_itoa _ a2.1 a2.2).2
  · exact (atoi_itoa _ a3.1 a3.2).2
theorem no10 : ∀ ws : List (List UInt8), (∀ w ∈ ws, (10 : UInt8) ∉ w) → (10 : UInt8) ∉ joinW ws
  | [], _ => by simp [joinW]
  | [w], h => h w (by simp)
  | w :: v :: ws, h => by
    rw [joinW]
    intro hm
    rcases List.mem_append.1 hm with h1 | h1
    · exact h w (by simp) h1
    · rcases List.mem_cons.1 h1 with h2 | h2
      · exact absurd h2 (by decide)
      · exact no10 (v :: ws) (fun x hx => h x (by simp [hx])) h2
def bodyB (e : Evt) : List UInt8 := lineTo e (formAt (e.kind - 1).toNat) 4
theorem fillR_ok {e : Evt} {f : EForm} (hw : 0 ≤ e.worker ∧ e.worker ≤ 256) (ht : 0 ≤ e.task ∧ e.task ≤ 256) (ho : 0 ≤ e.other ∧ e.other ≤ 256) (hl : 0 ≤ e.level ∧ e.level ≤ 256) (zt : f.t = false → e.task = 0) (zo : f.o = false → e.other = 0) (zl : f.l = false → e.level = 0) :
    fillTo f ((lineW e f).tail.map fun w => (⟨w.toArray⟩ : ByteArray)) 4 = some ([e.worker, e.task, e.other, e.level], []) := by
  have w1 := (atoi_itoa _ hw.1 hw.2).1
  have t1 := (atoi_itoa _ ht.1 ht.2).1
  have o1 := (atoi_itoa _ ho.1 ho.2).1
  have l1 := (atoi_itoa _ hl.1 hl.2).1
  cases h1 : f.t <;> cases h2 : f.o <;> cases h3 : f.l <;> simp [fillTo, usAt, lineW, h1, h2, h3, w1, t1, o1, l1, zt, zo, zl]
theorem read_line {e : Evt} (h : validB e = true) : readB ⟨(bodyB e).toArray⟩ = some e := by
  obtain ⟨h1, h2, h3⟩ := valid_parts h
  have hk : (e.kind - 1).toNat < 19 := by omega
  have fw := form_word (e.kind - 1).toNat hk
  have a0 := h3 0 (by omega)
  have a1 := h3 1 (by omega)
  have a2 := h3 2 (by omega)
  have a3 := h3 3 (by omega)
  simp only [flAt] at a0 a1 a2 a3
  simp at a0 a1 a2 a3
  have hv := h
  simp only [validB, fldOK, Bool.and_eq_true, decide_eq_true_eq, Bool.or_eq_true] at hv
  have we : wordsOf ⟨(bodyB e).toArray⟩ = (lineW e (formAt (e.kind - 1).toNat)).map fun w => ⟨w.toArray⟩ := words_eq (by simp [lineW]) (fun w hw => (lineW_ok h w hw).1) (by simp only [bodyB]; exact line_join e _)
  have hf := fillR_ok (e := e) (f := formAt (e.kind - 1).toNat) a0 a1 a2 a3 (fun hz => by have := hv.1.1.2.2; rw [hz] at this; simpa using this) (fun hz => by have := hv.1.2.2; rw [hz] at this; simpa using this) (fun hz => by have := hv.2.2; rw [hz] at this; simpa using this)
  have he : evOf (e.kind - 1).toNat [e.worker, e.task, e.other, e.level] = e := by
    rcases e with ⟨K, a, t, o, l⟩
    simp only at h1 h2
    show (⟨(((K - 1).toNat : Nat) : Int) + 1, a, t, o, l⟩ : Evt) = ⟨K, a, t, o, l⟩
    congr 1
    omega
  unfold readB
  rw [we]
  have hd : ((lineW e (formAt (e.kind - 1).toNat)).map fun w => (⟨w.toArray⟩ : ByteArray)).headD ByteArray.empty = wordB (e.kind - 1).toNat := rfl
  rw [hd, fw.1, ← List.map_tail]
  simp only [hf]
  rw [he, if_pos ⟨trivial, h⟩]
theorem fillR_step {f : EForm} {ws : List ByteArray} {i : Nat} {vs : List Int} {rest : List ByteArray} (h : fillTo f ws (i + 1) = some (vs, rest)) : ∃ vs0 rest0, fillTo f ws i = some (vs0, rest0) ∧ ((usAt f i = true ∧ ∃ n : Int, rest0 = ⟨(Lib.itoa n).toArray⟩ :: rest ∧ vs = vs0 ++ [n]) ∨ (usAt f i = false ∧ vs = vs0 ++ [0] ∧ rest0 = rest)) := by
  unfold fillTo at h
  cases hf : fillTo f ws i with
  | none => rw [hf] at h; cases h
  | some p =>
    obtain ⟨vs0, rest0⟩ := p
    rw [hf] at h
    refine ⟨vs0, rest0, rfl, ?_⟩
    simp only at h
    split at h
    · rename_i hu
      refine .inl ⟨hu, ?_⟩
      cases rest0 with
      | nil => cases h
      | cons r rest' =>
        simp only at h
        split at h
        · cases h
        · rename_i n hn
          split at h
          · rename_i he
            simp only [Option.some.injEq, Prod.mk.injEq] at h
            obtain ⟨rfl, rfl⟩ := h
            exact ⟨n, by rw [he], rfl⟩
          · cases h
    · rename_i hu
      simp only [Option.some.injEq, Prod.mk.injEq] at h
      obtain ⟨rfl, rfl⟩ := h
      exact .inr ⟨by simpa using hu, rfl, rfl⟩
theorem fillR_inv {f : EForm} {ws : List ByteArray} {vs : List Int} (h : fillTo f ws 4 = some (vs, [])) : ∃ a b c d : Int, vs = [a, b, c, d] ∧ (f.t = false → b = 0) ∧ (f.o = false → c = 0) ∧ (f.l = false → d = 0) ∧ ws.map (·.data.toList) = (lineW ⟨0, a, b, c, d⟩ f).tail := by
  obtain ⟨v3, r3, h3, s3⟩ := fillR_step h
  obtain ⟨v2, r2, h2, s2⟩ := fillR_step h3
  obtain ⟨v1, r1, h1, s1⟩ := fillR_step h2
  obtain ⟨v0, r0, h0, s0⟩ := fillR_step h1
  simp only [fillTo, Option.some.injEq, Prod.mk.injEq] at h0
  obtain ⟨rfl, rfl⟩ := h0
  simp only [usAt] at s0 s1 s2 s3
  rcases s0 with ⟨-, a, rfl, rfl⟩ | ⟨hu, -⟩
  rotate_left
  · simp at hu
  simp only [show ((1 : Nat) = 0) = False by simp, if_false, if_true, show ((2 : Nat) = 0) = False by simp, show ((2 : Nat) = 1) = False by simp, show ((3 : Nat) = 0) = False by simp, show ((3 : Nat) = 1) = False by simp, show ((3 : Nat) = 2) = False by simp] at s1 s2 s3
  rcases s1 with ⟨u1, b, rfl, rfl⟩ | ⟨u1, rfl, rfl⟩ <;> rcases s2 with ⟨u2, c, rfl, rfl⟩ | ⟨u2, rfl, rfl⟩ <;> rcases s3 with ⟨u3, d, rfl, rfl⟩ | ⟨u3, rfl, rfl⟩
  · exact ⟨a, b, c, d, rfl, (fun e => by rw [u1] at e; cases e), (fun e => by rw [u2] at e; cases e), (fun e => by rw [u3] at e; cases e), by simp [lineW, u1, u2, u3]⟩
  · exact ⟨a, b, c, 0, rfl, (fun e => by rw [u1] at e; cases e), (fun e => by rw [u2] at e; cases e), fun e => rfl, by simp [lineW, u1, u2, u3]⟩
  · exact ⟨a, b, 0, d, rfl, (fun e => by rw [u1] at e; cases e), fun e => rfl, (fun e => by rw [u3] at e; cases e), by simp [lineW, u1, u2, u3]⟩
  · exact ⟨a, b, 0, 0, rfl, (fun e => by rw [u1] at e; cases e), fun e => rfl, fun e => rfl, by simp [lineW, u1, u2, u3]⟩
  · exact ⟨a, 0, c, d, rfl, fun e => rfl, (fun e => by rw [u2] at e; cases e), (fun e => by rw [u3] at e; cases e), by simp [lineW, u1, u2, u3]⟩
  · exact ⟨a, 0, c, 0, rfl, fun e => rfl, (fun e => by rw [u2] at e; cases e), fun e => rfl, by simp [lineW, u1, u2, u3]⟩
  · exact ⟨a, 0, 0, d, rfl, fun e => rfl, fun e => rfl, (fun e => by rw [u3] at e; cases e), by simp [lineW, u1, u2, u3]⟩
  · exact ⟨a, 0, 0, 0, rfl, fun e => rfl, fun e => rfl, fun e => rfl, by simp [lineW, u1, u2, u3]⟩
theorem read_inv {s : ByteArray} {e : Evt} (h : readB s = some e) : validB e = true ∧ bodyB e = s.data.toList := by
  unfold readB at h
  cases hk : formOf ((wordsOf s).headD ByteArray.empty) 19 with
  | none => rw [hk] at h; cases h
  | some k =>
    rw [hk] at h
    simp only at h
    obtain ⟨hw0, hk19⟩ := formOf_eq 19 (Nat.le_refl _) hk
    cases hf : fillTo (formAt k) (wordsOf s).tail 4 with
    | none => rw [hf] at h; cases h
    | some p =>
      obtain ⟨vs, rest⟩ := p
      rw [hf] at h
      simp only at h
      split at h
      · rename_i hc
        obtain ⟨rfl, hv⟩ := hc
        cases h
        refine ⟨hv, ?_⟩
        obtain ⟨a, b, c, d, rfl, -, -, -, hws⟩ := fillR_inv hf
        have hkk : ((evOf k [a, b, c, d]).kind - 1).toNat = k := by
          show (((k : Int) + 1) - 1).toNat = k
          omega
        rw [bodyB, hkk, line_join, (words_ex s).1]
        congr 1
        have hpos := wordsOf_pos s
        cases hwd : wordsOf s with
        | nil => rw [hwd] at hpos; simp at hpos
        | cons w ws =>
          rw [hwd] at hws hw0
          simp only [List.tail_cons] at hws
          simp only [List.headD_cons] at hw0
          rw [List.map_cons, hws, ← hw0]
          rfl
      · cases h
theorem first_ex (c : UInt8) : ∀ l : List UInt8, c ∈ l → ∃ w r, c ∉ w ∧ l = w ++ c :: r
  | [], h => by cases h
  | b :: l, h => by
    by_cases e : b = c
    · subst e
      exact ⟨[], l, by simp, rfl⟩
    · obtain ⟨w, r, h1, h2⟩ := first_ex c l (by
        rcases List.mem_cons.1 h with h3 | h3
        · exact absurd h3.symm e
        · exact h3)
      refine ⟨b :: w, r, ?_, by rw [h2]; rfl⟩
      intro hm
      rcases List.mem_cons.1 hm with h3 | h3
      · exact e h3.symm
      · exact h1 h3
theorem cut_line {w r : List UInt8} (h : (10 : UInt8) ∉ w) : Lib.cut (w ++ 10 :: r) [10] = (w, r, true) := by
  unfold Lib.cut
  rw [Lib.index_one, index_at 10 r w h, if_pos (by omega)]
  simp
theorem cut_inv {tx : List UInt8} (h : (Lib.cut tx [10]).2.2 = true) : ∃ w r, (10 : UInt8) ∉ w ∧ tx = w ++ 10 :: r := by
  by_cases hm : (10 : UInt8) ∈ tx
  · exact first_ex 10 tx hm
  · unfold Lib.cut at h
    rw [Lib.index_one, index_no 10 tx hm, if_neg (by omega)] at h
    cases h
theorem body_no10 {e : Evt} (h : validB e = true) : (10 : UInt8) ∉ bodyB e := by
  unfold bodyB
  rw [line_join]
  exact no10 _ fun w hw => (lineW_ok h w hw).2
theorem fmtB_cons (e : Evt) (l : List Evt) : fmtB (e :: l) = bodyB e ++ 10 :: fmtB l := by
  have hb : lineB e = bodyB e ++ [10] := rfl
  simp [fmtB, hb]
theorem parse_fmt : ∀ (l : List Evt) (f : Nat) (out : List Evt) (n : Int), (∀ e ∈ l, validB e = true) → (fmtB l).length < f → out.length + l.length ≤ 65536 → parseR f (fmtB l) out n = (out ++ l, 0, 0)
  | [], f, out, n, _, hf, _ => by
    cases f with
    | zero => exact absurd hf (Nat.not_lt_zero _)
    | succ f => rw [parseR_succ, if_pos (show fmtB [] = [] from rfl), List.append_nil]
  | e :: l, f, out, n, hv, hf, hl => by
    cases f with
    | zero => exact absurd hf (Nat.not_lt_zero _)
    | succ f =>
      have he := hv e (by simp)
      rw [fmtB_cons] at hf ⊢
      simp only [List.length_append, List.length_cons] at hf hl
      rw [parseR_succ, if_neg (by simp), cut_line (body_no10 he), if_pos rfl, read_line he]
      simp only
      rw [if_neg (by omega), parse_fmt l f (out ++ [e]) (n + 1) (fun x hx => hv x (by simp [hx])) (by omega) (by simp; omega)]
      simp
theorem parseB_fmt {l : List Evt} (hv : ∀ e ∈ l, validB e = true) (hl : l.length ≤ 65536) : parseB (fmtB l) = (l, 0, 0) := by
  have := fmtB_len hv
  unfold parseB
  rw [if_neg (by omega), parse_fmt l _ [] 1 hv (by omega) (by simpa using hl)]
  rfl
theorem parse_inv : ∀ (f : Nat) (tx : List UInt8) (out : List Evt) (n : Int) (l : List Evt) (m : Int), parseR f tx out n = (l, m, 0) → tx.length < f → out.length ≤ 65536 → ∃ l', l = out ++ l' ∧ fmtB l' = tx ∧ (∀ e ∈ l', validB e = true) ∧ l.length ≤ 65536
  | 0, tx, out, n, l, m, _, hf, _ => absurd hf (Nat.not_lt_zero _)
  | f + 1, tx, out, n, l, m, h, hf, ho => by
    rw [parseR_succ] at h
    split at h
    · rename_i e
      simp only [Prod.mk.injEq] at h
      obtain ⟨rfl, -⟩ := h
      exact ⟨[], by simp, by rw [e]; rfl, by simp, ho⟩
    · split at h
      · rename_i hc
        obtain ⟨w, r, hw, rfl⟩ := cut_inv hc
        rw [cut_line hw] at h
        simp only at h
        split at h
        · simp at h
        · rename_i e he
          split at h
          · simp at h
          · rename_i hne
            simp only [List.length_append, List.length_cons] at hf
            obtain ⟨l', h1, h2, h3, h4⟩ := parse_inv f r (out ++ [e]) (n + 1) l m h (by omega) (by simp; omega)
            obtain ⟨r1, r2⟩ := read_inv he
            refine ⟨e :: l', by rw [h1]; simp, ?_, fun x hx => ?_, h4⟩
            · rw [fmtB_cons, h2, r2]
            · rcases List.mem_cons.1 hx with rfl | hx
              · exact r1
              · exact h3 x hx
      · simp at h
theorem parse_err : ∀ (f : Nat) (tx : List UInt8) (out : List Evt) (n : Int), (parseR f tx out n).2.2 ≠ 0 → (parseR f tx out n).1 = []
  | 0, tx, out, n, h => absurd rfl h
  | f + 1, tx, out, n, h => by
    rw [parseR_succ] at h ⊢
    split at h <;> rename_i h1
    · exact absurd rfl h
    · rw [if_neg h1]
      split at h <;> rename_i h2
      · rw [if_pos h2]
        split at h <;> rename_i h3
        · rfl
        · rename_i e
          split at h <;> rename_i h4
          · rw [if_pos h4]
          · rw [if_neg h4]
            exact parse_err f _ _ _ h
      · rw [if_neg h2]
theorem parseB_inv {tx : List UInt8} (h : (parseB tx).2.2 = 0) : fmtRes (parseB tx).1 = (tx, 0) := by
  unfold parseB at h ⊢
  split at h
  · simp at h
  · rename_i hl
    rw [if_neg hl]
    obtain ⟨l', h1, h2, h3, h4⟩ := parse_inv (tx.length + 1) tx [] 1 (parseR (tx.length + 1) tx [] 1).1 (parseR (tx.length + 1) tx [] 1).2.1 (by rw [← h]) (by omega) (by simp)
    rw [List.nil_append] at h1
    rw [h1] at h4 ⊢
    unfold fmtRes
    rw [if_neg (by omega), if_pos (List.all_eq_true.2 h3), h2]
theorem parseB_err {tx : List UInt8} (h : (parseB tx).2.2 ≠ 0) : (parseB tx).1 = [] := by
  unfold parseB at h ⊢
  split at h
  · rename_i hl
    rw [if_pos hl]
  · rename_i hl
    rw [if_neg hl]
    exact parse_err _ _ _ _ h
theorem fmtRes_parse {l : List Evt} (h : (fmtRes l).2 = 0) : parseB (fmtRes l).1 = (l, 0, 0) := by
  unfold fmtRes at h ⊢
  split at h
  · simp at h
  · rename_i hl
    rw [if_neg hl]
    split at h
    · rename_i hv
      rw [if_pos hv]
      exact parseB_fmt (List.all_eq_true.1 hv) (by omega)
    · simp at h
end Go.Proofs.YtncnepmgmphanaaGreatDoor

namespace Go.Proofs.YtncnepmgmphanaaGreatDoor
open Go.RowKit
theorem fmtRes_len (l : List Evt) : (fmtRes l).1.length ≤ 1507328 := by
  unfold fmtRes
  split
  · simp
  · split
    · rename_i h1 h2
      have := fmtB_len (List.all_eq_true.1 h2)
      simp only
      omega
    · simp
theorem bs_size (l : List UInt8) : (bs l).size = l.length := by simp [bs, ByteArray.size]
set_option maxRecDepth 100000 in
set_option maxHeartbeats 4000000 in
theorem EventsRound_any (w : World) (hL : LibAt w) (v : Value) (l : List Evt) (hE : EL w v l) (hn : l.length ≤ 9223372036854775807) (ao : Option Addr) (nb cb : Nat) (hb : BytesAt w ao nb) (hnb : nb ≤ 9223372036854775807) (sa : Option Addr) (ns cs : Nat) (hs : BytesAt w sa ns) (hns : ns ≤ 9223372036854775807)
    (vz : Value) (zs : List Int) (hz : Ns w vz zs) (hnz : zs.length ≤ 9223372036854775807) (near : Bool) :
    Calls Tryz.prog 5 #[v, .slice ao nb cb, .slice sa ns cs, vz, .bool near] w fun e w' => e = .returned (.bool true) ∧ Only [] w w' := by
  have HE := Lib.hid hE
  have HL := Lib.hid hL
  have HB := Lib.hid (And.intro hb hs)
  have HZ := Lib.hid hz
  obtain ⟨al, cl, rfl, hcl, -⟩ := hE
  obtain ⟨az, cz, rfl, -, -, hcz⟩ := hz
  obtain ⟨n, hnn⟩ : ∃ n, n = l.length := ⟨_, rfl⟩
  have HN := Lib.hid hnn
  rw [← hnn] at hn ⊢
  obtain ⟨mz, hmz⟩ : ∃ mz, mz = zs.length := ⟨_, rfl⟩
  have HM := Lib.hid hmz
  rw [← hmz] at hnz ⊢
  obtain ⟨W1, hW1⟩ : ∃ W1, W1 = w.alloc (.cells #[.slice az mz cz] 29) := ⟨_, rfl⟩
  obtain ⟨zb, hzb⟩ : ∃ zb, zb = w.heap.size := ⟨_, rfl⟩
  have SH := Lib.hid (short_any W1 ao nb cb hnb zb 29 (0, 0) [(az, mz, cz)] 1 rfl (by decide) (by rw [hW1, hzb]; exact blk_alloc_new _ _) (fun x hx => by simp at hx; subst hx; exact hnz))
  have O1 := Lib.hid (show Only [] w W1 from by rw [hW1]; exact (Only.refl _ _).alloc _)
  have HW := Lib.hid (And.intro hW1 hzb)
  clear hL hb hs hcl hnn hmz hcz hW1 hzb
  have e2 : (decide (∀ x ∈ [(az, mz, cz)], x.2.1 ≤ 400) && decide (nb ≤ 400)) = (decide (mz ≤ 400) && decide (nb ≤ 400)) := by simp
  rw [e2] at SH
  clear e2
  by_cases h200 : 200 < n
  · go_enter Tryz.func5, Tryz.ntmps5
    have h3 : (200 : Int) < (n : Int) := by omega
    go_wp2_with fail
    go_ret
    exact ⟨rfl, Only.refl _ _⟩
  have h3 : ¬ (200 : Int) < (n : Int) := by omega
  by_cases h400 : mz ≤ 400 ∧ nb ≤ 400
  rotate_left
  · have e3 : (decide (mz ≤ 400) && decide (nb ≤ 400)) = false := by
      by_cases h1 : mz ≤ 400
      · have : ¬ nb ≤ 400 := fun h => h400 ⟨h1, h⟩
        simp [this]
      · simp [h1]
    rw [e3] at SH
    clear e3
    go_enter Tryz.func5, Tryz.ntmps5
    go_wp2_with fail
    rw [← HW.out.1, ← HW.out.2]
    refine SH.out.mono ?_; rintro e w' ⟨rfl, rfl⟩
    go_wp2_with fail
    go_ret
    exact ⟨rfl, O1.out⟩
  rw [decide_eq_true h400.1, decide_eq_true h400.2] at SH
  by_cases h600 : 400 < ns
  · have h6 : (400 : Int) < (ns : Int) := by omega
    go_enter Tryz.func5, Tryz.ntmps5
    go_wp2_with fail
    rw [← HW.out.1, ← HW.out.2]
    refine SH.out.mono ?_; rintro e w' ⟨rfl, rfl⟩
    go_wp2_with fail
    go_ret
    exact ⟨rfl, O1.out⟩
  have h6 : ¬ (400 : Int) < (ns : Int) := by omega
  go_enter Tryz.func5, Tryz.ntmps5
  go_wp2_with fail
  rw [← HW.out.1, ← HW.out.2]
  refine SH.out.mono ?_; rintro e w' ⟨rfl, rfl⟩
  go_upto_if 36 with fail
  go_cut [0] (fun s0 wx => ∃ l1, EL wx s0 l1 ∧ l1.length ≤ 200000 ∧ Only [] w wx)
  case first =>
    cases near with
    | false =>
      go_wp2_with fail
      go_meet
      exact ⟨l, by have := HE.out.keep O1.out; rwa [← HN.out] at this, by have := HN.out; omega, O1.out⟩
    | true =>
      go_wp2_with fail
      refine (histE_any W1 ao sa nb cb ns cs (HB.out.1.only O1.out) (HB.out.2.only O1.out) (by omega) (by omega)).mono ?_
      rintro e w1 ⟨v1, l1, rfl, hE1, hl1, o1⟩
      have H1 := Lib.hid (And.intro hE1 (And.intro hl1 (O1.out.then0 o1)))
      clear hE1 hl1 o1
      go_wp2_with fail
      go_meet
      exact ⟨l1, H1.out⟩
  case rest =>
    obtain ⟨l1, hE1, hl1, o1⟩ := hcut
    obtain ⟨w1, hw1⟩ : ∃ w1, w1 = wc := ⟨_, rfl⟩
    subst hw1
    have HE1 := Lib.hid hE1
    have O2 := Lib.hid o1
    have L1 := Lib.hid (HL.out.keep0 o1)
    have FM := format_any w1 L1.out _ l1 hE1 (by omega)
    change Calls _ _ _ _ (fun e w' => e = .returned (.tuple #[.string (bs (fmtRes l1).1), .int .i64 (fmtRes l1).2]) ∧ Only [] w1 w') at FM
    obtain ⟨S, hS⟩ : ∃ S, S = bs (fmtRes l1).1 := ⟨_, rfl⟩
    obtain ⟨c, hc⟩ : ∃ c, c = (fmtRes l1).2 := ⟨_, rfl⟩
    have HS := Lib.hid (show S.size ≤ 1507328 ∧ (c = 0 → parseB S.data.toList = (l1, 0, 0)) from ⟨by rw [hS, bs_size]; exact fmtRes_len l1, fun h0 => by rw [hS]; exact fmtRes_parse (hc ▸ h0)⟩)
    rw [← hS, ← hc] at FM
    have FMH := Lib.hid FM
    have hl1' : l1.length ≤ 9223372036854775807 := by omega
    clear FM hS hc hE1 o1
    go_wp2_with fail
    refine FMH.out.mono ?_; rintro e w2 ⟨rfl, o2⟩
    have O3 := Lib.hid (show Only [] w1 w2 from o2)
    clear o2
    go_upto_if 46 with fail
    go_cut [] (fun wx => Only [] w1 wx)
    case first =>
      by_cases h0 : c = 0
      · subst h0
        have PA := parse_any w2 (L1.out.keep0 O3.out) S (by have := HS.out.1; omega)
        rw [HS.out.2 rfl] at PA
        have PAH := Lib.hid PA
        clear PA
        go_wp2_with fail
        refine PAH.out.mono ?_
        rintro e w3 ⟨o3, v3, rfl, hE3⟩
        have H3 := Lib.hid (show EL w3 v3 l1 ∧ Only [] w1 w3 ∧ Only [] w2 w3 from ⟨hE3, O3.out.then0 o3, o3⟩)
        clear hE3 o3
        go_wp2_with fail
        refine (refSame_any w3 _ _ l1 H3.out.1 (HE1.out.keep H3.out.2.1) hl1').mono ?_
        rintro e w4 ⟨rfl, o4⟩
        have H4 := Lib.hid (H3.out.2.1.then0 o4)
        clear o4
        go_wp2_with fail
        go_meet
        exact H4.out
      · have e0 : (c == 0) = false := by simpa using h0
        go_wp2_with fail
        go_meet
        exact O3.out
    case rest =>
      have O4 := Lib.hid (show Only [] w wc ∧ Only [] w1 wc from ⟨O2.out.then0 hcut, hcut⟩)
      clear hcut
      go_wp2_with fail
      have CH := Lib.hid (changed_any wc S (.slice az mz cz) zs (by rw [HM.out]; exact HZ.out.keep O4.out.1) (by have := HS.out.1; omega) (by have := HM.out; omega))
      refine CH.out.mono ?_
      rintro e w5 ⟨t, rfl, ht, o5⟩
      have O5 := Lib.hid (O4.out.1.then0 o5)
      have htz : t.size ≤ 9223372036854775807 := by have := HS.out.1; omega
      clear o5 ht CH
      go_wp2_with fail
      obtain ⟨l2, n2, f2, hP⟩ : ∃ l2 n2 f2, parseB t.data.toList = (l2, n2, f2) := ⟨_, _, _, rfl⟩
      have PA := parse_any w5 (HL.out.keep0 O5.out) t htz
      have INV := Lib.hid (show (f2 = 0 → fmtRes l2 = (t.data.toList, 0)) ∧ (f2 ≠ 0 → l2 = []) from ⟨fun h => by have := parseB_inv (tx := t.data.toList) (by rw [hP]; exact h); rwa [hP] at this, fun h => by have := parseB_err (tx := t.data.toList) (by rw [hP]; exact h); rwa [hP] at this⟩)
      rw [hP] at PA
      have PAH := Lib.hid PA
      clear PA hP
      refine PAH.out.mono ?_
      rintro e w6 ⟨o6, v6, rfl, hE6⟩
      have H6 := Lib.hid (show EL w6 v6 l2 ∧ Only [] w w6 from ⟨hE6, O5.out.then0 o6⟩)
      clear hE6 o6
      by_cases hf : f2 = 0
      · subst hf
        have hr := INV.out.1 rfl
        have hl2 : l2.length ≤ 9223372036854775807 := by
          unfold fmtRes at hr
          split at hr
          · simp at hr
          · omega
        have FR := format_any w6 (HL.out.keep0 H6.out.2) v6 l2 H6.out.1 hl2
        rw [hr] at FR
        have FRH := Lib.hid (show Calls Tryz.prog 10 #[v6] w6 fun e w' => e = .returned (.tuple #[.string t, .int .i64 0]) ∧ Only [] w6 w' from FR)
        clear FR hr
        go_wp2_with fail
        refine FRH.out.mono ?_
        rintro e w7 ⟨rfl, o7⟩
        have O7 := Lib.hid (H6.out.2.then0 o7)
        clear o7
        go_wp2_with fail
        refine (awake_any _ (HL.out.keep0 O7.out)).mono ?_; rintro e w8 ⟨rfl, o8⟩
        have O8 := Lib.hid (O7.out.then0 o8)
        clear o8
        go_wp2_with fail
        go_ret
        exact ⟨rfl, O8.out⟩
      · have ef : (f2 != 0) = true := by simpa using hf
        obtain ⟨a6, c6, hv6, -, -⟩ := H6.out.1
        subst hv6
        have hl0 : l2 = [] := INV.out.2 hf
        subst hl0
        go_wp2_with fail
        refine (awake_any _ (HL.out.keep0 H6.out.2)).mono ?_; rintro e w8 ⟨rfl, o8⟩
        have O8 := Lib.hid (H6.out.2.then0 o8)
        clear o8
        go_wp2_with fail
        go_ret
        exact ⟨rfl, O8.out⟩
end Go.Proofs.YtncnepmgmphanaaGreatDoor
