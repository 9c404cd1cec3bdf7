/- The laws ScriptEncodes and ScriptRound, walked. -/
import Derived.Test.YtfhmphbfngdkeaaScriptEnc2
import Derived.Laws.BytesArg
namespace Go.Proofs.Ytfhmphbfngdkeaa
open Go.RowKit
set_option linter.unusedVariables false

theorem by_owns {w : World} {base : Nat} {T : TypeId} {v : Value} {n : Nat} {xs : List Int} (h : w.ownsRow base T 1 v n (xs.map (.int .u8))) : By w v xs ∧ n = xs.length := by
  obtain ⟨hl, ⟨rfl, hn⟩ | ⟨g, cap, cur, rfl, hb, hh, hn, hc, hs, ht⟩⟩ := h
  · simp at hl
    obtain rfl := hn
    have e : xs = [] := List.eq_nil_of_length_eq_zero (by omega)
    subst e
    exact ⟨⟨none, 0, rfl, CellsAt.nil _ _, fun _ => ⟨rfl, rfl⟩, Nat.le_refl _⟩, rfl⟩
  · simp only [List.length_map, Nat.mul_one] at hl ht
    subst hl
    refine ⟨⟨some ⟨g, 0, none⟩, cap, rfl, fun hp => ⟨g, 0, rfl, fun j hj => ?_⟩, (fun e => by cases e), hn⟩, rfl⟩
    rw [cell_blk hh, Nat.zero_add]
    simp only [List.length_map] at hj
    have h6 : (cur.toList.take xs.length)[j]? = some (xs.map (Value.int .u8))[j] := by rw [ht]; exact List.getElem?_eq_getElem (by simpa using hj)
    rw [List.getElem?_take] at h6
    simpa [hj] using h6

theorem conv_by {w : World} {v : Value} {xs : List Int} (h : By w v xs) : (convert 22 9 v).run Try.prog w = .ok (.string (strOfNums xs)) w := by
  obtain ⟨ao, cap, rfl, h1, h2, h3⟩ := h
  cases ao with
  | none =>
    obtain ⟨rfl, rfl⟩ := h2 rfl
    exact run_convert_bytes_nil w 22 5 Try.underlying22 Try.underlying5 _ _ 9 Try.underlying9
  | some a =>
    by_cases hp : 0 < xs.length
    · obtain ⟨b, off, e, hc⟩ := h1.ints hp
      cases e
      exact run_convert_bytes_arg w 22 5 Try.underlying22 Try.underlying5 b off xs.length cap xs rfl hc 9 Try.underlying9
    · have e : xs = [] := List.eq_nil_of_length_eq_zero (by omega)
      subst e
      show (convert 22 9 (.slice (some a) 0 cap)).run Try.prog w = _
      rw [run_convert_bytes_string w 22 9 5 (some a) 0 cap Try.underlying22 Try.underlying5 Try.underlying9]
      simp [Conv.bytesToString]
      rfl

theorem enc_en (w : World) (v : Value) (l : List E) (h : En w v l) (hn : l.length ≤ 60000) : Calls Try.prog 22 #[v] w (EncPost w l) := by
  obtain ⟨ao, cap, rfl, h1, _, _⟩ := h
  exact enc_at w ao cap _ l h1 rfl hn
theorem refEnc_en (w : World) (v : Value) (l : List E) (h : En w v l) (hn : l.length ≤ 60000) : Calls Try.prog 23 #[v] w (EncPost w l) := by
  obtain ⟨ao, cap, rfl, h1, _, _⟩ := h
  exact refEnc_at w ao cap _ l h1 rfl hn

set_option maxHeartbeats 800000 in
theorem ScriptEncodes_any (w : World) (v : Value) (l : List E) (h : En w v l) (hm : l.length ≤ 9223372036854775807) :
    Calls Try.prog 7 #[v] w fun e w' => e = .returned (.bool true) ∧ Only [] w w' := by
  have H := Lib.hid h
  obtain ⟨ao, cap, rfl, _, _, h3⟩ := h
  obtain ⟨n, hn⟩ : ∃ n, n = l.length := ⟨_, rfl⟩
  rw [← hn] at hm h3 H ⊢
  have HN := Lib.hid hn
  clear hn
  by_cases hbig : 1000 < n
  · go_enter Try.func7, Try.ntmps7
    go_wp2_with fail
    go_ret
    exact ⟨rfl, Only.refl _ _⟩
  · have HL : Hid (l.length ≤ 60000) := Lib.hid (by have := HN.out; omega)
    go_enter Try.func7, Try.ntmps7
    go_wp2_with fail
    refine (enc_en _ _ l H.out HL.out).mono ?_; rintro e w1 ⟨o1, ⟨ha, v1, rfl, s1⟩ | ⟨ha, rfl⟩⟩
    · have H1 := Lib.hid (H.out.keep o1)
      have O1 := Lib.hid o1
      have S1 := Lib.hid (by_owns s1).1
      have HA := Lib.hid ha
      clear o1 s1 ha
      go_wp2_with fail
      refine (refEnc_en _ _ l H1.out HL.out).mono ?_; rintro e w2 ⟨o2, ⟨ha2, v2, rfl, s2⟩ | ⟨ha2, rfl⟩⟩
      · have O2 := Lib.hid (O1.out.then0 o2)
        have S2 := Lib.hid (S1.out.keep o2)
        have T2 := Lib.hid (by_owns s2).1
        clear o2 s2 ha2
        go_wp2_with fail
        refine (awake_any _).mono ?_; rintro e w3 ⟨rfl, o3⟩
        have O3 := Lib.hid (O2.out.then0 o3)
        have k1 := conv_by (S2.out.keep o3)
        have k2 := conv_by (T2.out.keep o3)
        generalize strOfNums (encB l) = S at k1 k2
        clear o3
        go_wp2_with fail
        go_ret
        exact ⟨rfl, O3.out⟩
      · exact absurd ha2 (by rw [HA.out]; simp)
    · have H1 := Lib.hid (H.out.keep o1)
      have O1 := Lib.hid o1
      have HA := Lib.hid ha
      clear o1 ha
      go_wp2_with fail
      refine (refEnc_en _ _ l H1.out HL.out).mono ?_; rintro e w2 ⟨o2, ⟨ha2, v2, rfl, s2⟩ | ⟨ha2, rfl⟩⟩
      · exact absurd ha2 (by rw [HA.out]; simp)
      · have O2 := Lib.hid (O1.out.then0 o2)
        clear o2 ha2
        go_wp2_with fail
        refine (awake_any _).mono ?_; rintro e w3 ⟨rfl, o3⟩
        have O3 := Lib.hid (O2.out.then0 o3)
        have k1 := fun (w : World) => run_convert_bytes_nil (P := Try.prog) w 22 5 Try.underlying22 Try.underlying5 0 0 9 Try.underlying9
        clear o3
        go_wp2_with fail
        go_ret
        exact ⟨rfl, O3.out⟩

theorem dec_enc : ∀ (l : List E), l.all validB = true → decL (encB l) = l
  | [], _ => rfl
  | (a, b) :: l, h => by
    simp only [List.all_cons, Bool.and_eq_true] at h
    have ih := dec_enc l h.2
    simp only [encB, decL, ih]
    congr 1
    have h1 := h.1
    unfold validB at h1
    simp at h1
    unfold ent
    have e : a % 4 = a := by omega
    rw [e]
    split <;> simp <;> omega
theorem dec_valid : ∀ (n : Nat) (xs : List Int), xs.length ≤ n → (∀ z ∈ xs, (Lit.int .u8 z).wf = true) → (decL xs).all validB = true
  | 0, [], _, _ => rfl
  | n + 1, [], _, _ => rfl
  | n + 1, [_], _, _ => rfl
  | n + 1, a :: b :: l, h, hw => by
    simp only [decL, List.all_cons, Bool.and_eq_true]
    refine ⟨?_, dec_valid n l (by simp at h; omega) (fun z hz => hw z (by simp [hz]))⟩
    have h1 := wf_u8 (hw a (by simp))
    have h2 := wf_u8 (hw b (by simp))
    unfold validB ent
    simp
    split <;> omega
  | 0, _ :: _, h, _ => by simp at h
theorem enc_wf : ∀ (l : List E), l.all validB = true → ∀ z ∈ encB l, (Lit.int .u8 z).wf = true
  | [], _, z, hz => by cases hz
  | (a, b) :: l, h, z, hz => by
    simp only [List.all_cons, Bool.and_eq_true] at h
    have h1 := valid_bd h.1
    simp only [encB, List.mem_cons] at hz
    rcases hz with rfl | rfl | hz
    · simp [Lit.wf, IntKind.min, IntKind.max, IntKind.signed, IntKind.bits]; omega
    · simp [Lit.wf, IntKind.min, IntKind.max, IntKind.signed, IntKind.bits]; omega
    · exact enc_wf l h.2 z hz

set_option maxHeartbeats 1600000 in
theorem ScriptRound_any (w : World) (xb : List Int) (vb : Value) (hb : By w vb xb) (wb : ∀ z ∈ xb, (Lit.int .u8 z).wf = true) (lb : xb.length ≤ 9223372036854775807) (v : Value) (l : List E) (h : En w v l) (hm : l.length ≤ 9223372036854775807) :
    Calls Try.prog 8 #[vb, v] w fun e w' => e = .returned (.bool true) ∧ Only [] w w' := by
  have H := Lib.hid h
  have HB := Lib.hid hb
  have WB := Lib.hid wb
  obtain ⟨ao, cap, rfl, _, _, h3⟩ := h
  obtain ⟨bo, cap2, rfl, _, _, h4⟩ := hb
  obtain ⟨n, hn⟩ : ∃ n, n = l.length := ⟨_, rfl⟩
  obtain ⟨nb, hnb⟩ : ∃ n, n = xb.length := ⟨_, rfl⟩
  rw [← hn] at hm h3 H ⊢
  rw [← hnb] at lb h4 HB ⊢
  have HN := Lib.hid hn
  have HNB := Lib.hid hnb
  clear hn hnb wb
  by_cases hbig : 2000 < nb
  · go_enter Try.func8, Try.ntmps8
    go_wp2_with fail
    go_ret
    exact ⟨rfl, Only.refl _ _⟩
  by_cases hbig2 : 500 < n
  · go_enter Try.func8, Try.ntmps8
    go_wp2_with fail
    go_ret
    exact ⟨rfl, Only.refl _ _⟩
  have HL : Hid (l.length ≤ 500) := Lib.hid (by have := HN.out; omega)
  have HLB : Hid (xb.length ≤ 2000) := Lib.hid (by have := HNB.out; omega)
  have HX : Hid ((decL xb).length ≤ 1000) := Lib.hid (by rw [decL_len]; have := HLB.out; omega)
  have HV : Hid ((decL xb).all validB = true) := Lib.hid (dec_valid _ xb (Nat.le_refl _) WB.out)
  go_enter Try.func8, Try.ntmps8
  go_wp2_with fail
  refine (decode_any _ _ xb HB.out WB.out (by have := HLB.out; omega)).mono ?_; rintro e w1 ⟨v1, rfl, o1, s1⟩
  have H1 := Lib.hid (H.out.keep o1)
  have O1 := Lib.hid o1
  have X1 := Lib.hid (en_owns s1).1
  obtain ⟨X, hX⟩ : ∃ X, X = decL xb := ⟨_, rfl⟩
  rw [← hX] at X1 HX HV
  clear o1 s1 hX
  obtain ⟨ax, cx, hvx, _⟩ := X1.out
  obtain ⟨nx, hnx⟩ : ∃ nx, nx = X.length := ⟨_, rfl⟩
  rw [← hnx] at hvx
  have HNX := Lib.hid hnx
  subst hvx
  have hnx2 : nx ≤ 1000 := by have := HX.out; omega
  clear hnx
  go_wp2_with fail
  refine (enc_en _ _ X X1.out (by have := HX.out; omega)).mono ?_; rintro e w2 ⟨o2, ⟨ha, v2, rfl, s2⟩ | ⟨ha, rfl⟩⟩
  · have H2 := Lib.hid (H1.out.keep o2)
    have X2 := Lib.hid (X1.out.keep o2)
    have O2 := Lib.hid (O1.out.then0 o2)
    have C2 := Lib.hid (by_owns s2).1
    obtain ⟨ac, cc, rfl⟩ := owns_slice s2
    rw [← HNX.out]
    clear o2 s2 ha O1 H1 X1
    go_wp2_with fail
    refine (awake_any _).mono ?_; rintro e w3 ⟨rfl, o3⟩
    have H3 := Lib.hid (H2.out.keep o3)
    have X3 := Lib.hid (X2.out.keep o3)
    have C3 := Lib.hid (C2.out.keep o3)
    have O3 := Lib.hid (O2.out.then0 o3)
    clear o3 O2 H2 X2 C2
    go_wp2_with fail
    refine (decode_any _ _ (encB X) (by rw [HNX.out]; exact C3.out) (enc_wf X HV.out) (by rw [encB_length]; have := HX.out; omega)).mono ?_; rintro e w4 ⟨v4, rfl, o4, s4⟩
    have H4 := Lib.hid (H3.out.keep o4)
    have X4 := Lib.hid (X3.out.keep o4)
    have Y4 := Lib.hid (en_owns s4).1
    have O4 := Lib.hid (O3.out.then0 o4)
    clear o4 s4 O3 H3 X3 C3
    go_wp2_with fail
    refine (same_en _ _ _ _ X Y4.out X4.out (dec_enc X HV.out) (by rw [dec_enc X HV.out]; have := HX.out; omega)).mono ?_; rintro e w5 ⟨rfl, o5⟩
    have H5 := Lib.hid (H4.out.keep o5)
    have O5 := Lib.hid (O4.out.then0 o5)
    clear o5 O4 H4 X4 Y4
    go_wp2_with fail
    refine (enc_en _ _ l H5.out (by have := HL.out; omega)).mono ?_; rintro e w6 ⟨o6, ⟨ha6, v6, rfl, s6⟩ | ⟨ha6, rfl⟩⟩
    · have H6 := Lib.hid (H5.out.keep o6)
      have O6 := Lib.hid (O5.out.then0 o6)
      have C6 := Lib.hid (by_owns s6).1
      have HA6 := Lib.hid ha6
      clear o6 s6 ha6 O5 H5
      go_wp2_with fail
      refine (decode_any _ _ (encB l) C6.out (enc_wf l HA6.out) (by rw [encB_length]; have := HL.out; omega)).mono ?_; rintro e w7 ⟨v7, rfl, o7, s7⟩
      have H7 := Lib.hid (H6.out.keep o7)
      have O7 := Lib.hid (O6.out.then0 o7)
      have Y7 := Lib.hid (en_owns s7).1
      clear o7 s7 O6 H6 C6
      go_wp2_with fail
      refine (same_en _ _ _ _ l Y7.out H7.out (dec_enc l HA6.out) (by rw [dec_enc l HA6.out]; have := HL.out; omega)).mono ?_; rintro e w8 ⟨rfl, o8⟩
      have O8 := Lib.hid (O7.out.then0 o8)
      clear o8
      go_wp2_with fail
      go_ret
      exact ⟨rfl, O8.out⟩
    · have O6 := Lib.hid (O5.out.then0 o6)
      clear o6 ha6
      go_wp2_with fail
      go_ret
      exact ⟨rfl, O6.out⟩
  · exact absurd ha (by rw [HV.out]; simp)
end Go.Proofs.Ytfhmphbfngdkeaa
