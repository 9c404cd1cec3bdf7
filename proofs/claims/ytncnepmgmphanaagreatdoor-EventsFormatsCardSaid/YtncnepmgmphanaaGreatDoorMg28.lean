/- The events of a text: plain. No condition. -/
import Derived.Test.YtncnepmgmphanaaGreatDoorMg27
import Derived.Test.YtncnepmgmphanaaGreatDoorEvRead
import Derived.Test.YtncnepmgmphanaaGreatDoorMg26
import Derived.Deep.DeepCutAuto
set_option linter.unusedVariables false
set_option linter.unusedSimpArgs false
set_option linter.unusedSectionVars false
namespace Go.Proofs.YtncnepmgmphanaaGreatDoor
open Go.RowKit
def parseR : Nat → List UInt8 → List Evt → Int → List Evt × Int × Int
  | 0, _, out, _ => (out, 0, 0)
  | f + 1, tx, out, n =>
    if tx = [] then (out, 0, 0) else
    if (Lib.cut tx [10]).2.2 = true then match readB ⟨(Lib.cut tx [10]).1.toArray⟩ with
      | none => ([], n, 4)
      | some e => if out.length = 65536 then ([], n, 2) else parseR f (Lib.cut tx [10]).2.1 (out ++ [e]) (n + 1)
    else ([], n, 4)
theorem parseR_succ (f : Nat) (tx : List UInt8) (out : List Evt) (n : Int) : parseR (f + 1) tx out n = if tx = [] then (out, 0, 0) else
    if (Lib.cut tx [10]).2.2 = true then match readB ⟨(Lib.cut tx [10]).1.toArray⟩ with
      | none => ([], n, 4)
      | some e => if out.length = 65536 then ([], n, 2) else parseR f (Lib.cut tx [10]).2.1 (out ++ [e]) (n + 1)
    else ([], n, 4) := rfl
def parseB (tx : List UInt8) : List Evt × Int × Int := if 4194304 < tx.length then ([], 0, 2) else parseR (tx.length + 1) tx [] 1
theorem cut_len {tx : List UInt8} (h : (Lib.cut tx [10]).2.2 = true) : (Lib.cut tx [10]).2.1.length < tx.length ∧ (Lib.cut tx [10]).1.length ≤ tx.length := by
  unfold Lib.cut at h ⊢
  split
  · rename_i hi
    simp only [List.length_drop, List.length_take, List.length_cons, List.length_nil]
    cases tx with
    | nil => exact absurd hi (by decide)
    | cons a l => simp only [List.length_cons]; omega
  · rename_i hi
    rw [if_neg hi] at h
    cases h
theorem cut_len1 (tx : List UInt8) : (Lib.cut tx [10]).1.length ≤ tx.length := by
  unfold Lib.cut
  split
  · simp only [List.length_take]; omega
  · exact Nat.le_refl _
def flatE (l : List Evt) : List Value := l.flatMap fun e => [.int .i64 e.kind, .int .i64 e.worker, .int .i64 e.task, .int .i64 e.other, .int .i64 e.level]
theorem flatE_len (l : List Evt) : (flatE l).length = l.length * 5 := by
  induction l with
  | nil => rfl
  | cons a l ih => simp only [flatE, List.flatMap_cons, List.length_append, List.length_cons, List.length_nil] at ih ⊢; omega
theorem flatE_snoc (l : List Evt) (e : Evt) : flatE (l ++ [e]) = flatE l ++ [.int .i64 e.kind, .int .i64 e.worker, .int .i64 e.task, .int .i64 e.other, .int .i64 e.level] := by simp [flatE]
theorem flatE_at (l : List Evt) : ∀ i, i < l.length → (flatE l)[i * 5]? = some (.int .i64 (l.getD i Evt.zero).kind) ∧ (flatE l)[i * 5 + 1]? = some (.int .i64 (l.getD i Evt.zero).worker) ∧ (flatE l)[i * 5 + 2]? = some (.int .i64 (l.getD i Evt.zero).task) ∧ (flatE l)[i * 5 + 3]? = some (.int .i64 (l.getD i Evt.zero).other) ∧ (flatE l)[i * 5 + 4]? = some (.int .i64 (l.getD i Evt.zero).level) := by
  induction l with
  | nil => intro i h; simp at h
  | cons a l ih =>
    intro i h
    cases i with
    | zero => exact ⟨rfl, rfl, rfl, rfl, rfl⟩
    | succ i =>
      obtain ⟨h0, h1, h2, h3, h4⟩ := ih i (by simpa using h)
      have e : ∀ j, (flatE (a :: l))[(i + 1) * 5 + j]? = (flatE l)[i * 5 + j]? := fun j => by
        rw [show (i + 1) * 5 + j = (i * 5 + j) + 5 by omega]; rfl
      have e0 := e 0
      simp only [Nat.add_zero] at e0
      rw [e0, e 1, e 2, e 3, e 4]
      exact ⟨h0, h1, h2, h3, h4⟩
theorem el_owns {w : World} {B : Nat} {T : TypeId} {v : Value} {l : List Evt} (h : w.ownsRow B T 5 v l.length (flatE l)) : EL w v l := by
  obtain ⟨hl, ⟨rfl, h0⟩ | ⟨g, cap, cur, rfl, hb, hh, hn, hm, hs, ht⟩⟩ := h
  · exact ⟨none, 0, by rw [h0], by omega, fun h => by omega⟩
  · refine ⟨_, cap, rfl, hn, fun _ => ⟨g, 0, rfl, fun i hi => ?_⟩⟩
    have at' : ∀ j v, (flatE l)[j]? = some v → w.cell? ⟨g, j, none⟩ = some v := fun j v hj => by
      rw [cell_blk hh]
      rw [← ht, List.getElem?_take] at hj
      split at hj
      · simpa using hj
      · cases hj
    obtain ⟨h0, h1, h2, h3, h4⟩ := flatE_at l i hi
    rw [Nat.zero_add]
    exact ⟨at' _ _ h0, at' _ _ h1, at' _ _ h2, at' _ _ h3, at' _ _ h4⟩
end Go.Proofs.YtncnepmgmphanaaGreatDoor

namespace Go.Proofs.YtncnepmgmphanaaGreatDoor
open Go.RowKit
theorem infoEv : (Tryz.prog.info? 27).map (fun i => (i.zero, i.size, i.bytes)) = some (some (.agg #[.int .i64 0, .int .i64 0, .int .i64 0, .int .i64 0, .int .i64 0]), 5, 40) := by kernel_rfl
theorem news_blk {w : World} {b : Nat} {l : List Value} {T : TypeId} {f : Nat × Nat} (h : w.heap[b]? = some (.cells l.toArray T f)) : ∀ j u, l[j]? = some u → w.cell? ((⟨b, 0, none⟩ : Addr).add j) = some u := by
  intro j u hu
  rw [Go.WideShapes.add_plain, Nat.zero_add, cell_blk h]
  simpa using hu
def strLen : Value → Nat
  | .string b => b.size
  | _ => 0
theorem owns_only {w w' : World} {B : Nat} {T : TypeId} {sz : Nat} {v : Value} {n : Nat} {xs : List Value} (h : w.ownsRow B T sz v n xs) (o : Only [] w w') : w'.ownsRow B T sz v n xs :=
  h.kept (row := none) ⟨o.os, o.tape, o.output, o.size, fun k hk _ => o.block k hk (by simp)⟩ (by cases v.ownBlock <;> simp)
theorem read_at (w : World) (hL : LibAt w) (s : ByteArray) (hs : s.size < 4294967281) :
    Calls Tryz.prog 34 #[.string s] w fun e w' => Only [] w w' ∧ ∃ (k a b c d : Int) (ok : Bool), e = .returned (.tuple #[.agg #[.int .i64 k, .int .i64 a, .int .i64 b, .int .i64 c, .int .i64 d], .bool ok]) ∧ (ok = true → readB s = some ⟨k, a, b, c, d⟩) ∧ (ok = false → readB s = none) :=
  (read_any w hL s hs).mono (by
    rintro e w' ⟨o, ⟨k, a, b, c, d⟩, ok, rfl, h1, h2⟩
    exact ⟨o, k, a, b, c, d, ok, rfl, h1, h2⟩)
def ParsePost (w : World) (r : List Evt × Int × Int) (e : Ending) (w' : World) : Prop :=
  Only [] w w' ∧ ∃ v, e = .returned (.tuple #[v, .int .i64 r.2.1, .int .i64 r.2.2]) ∧ EL w' v r.1
set_option maxRecDepth 100000 in
set_option maxHeartbeats 4000000 in
theorem parse_any (w : World) (hL : LibAt w) (s : ByteArray) (hs : s.size ≤ 9223372036854775807) :
    Calls Tryz.prog 14 #[.string s] w (ParsePost w (parseB s.data.toList)) := by
  by_cases hbig : 4194304 < s.size
  · have e : parseB s.data.toList = ([], 0, 2) := by
      unfold parseB; rw [if_pos (by rw [← Lib.size_eq]; exact hbig)]
    rw [e]
    clear e
    go_enter Tryz.func14, Tryz.ntmps14
    go_wp2_with fail
    go_ret3
    exact ⟨Only.refl _ _, _, rfl, none, 0, rfl, by simp, by simp⟩
  · have e : parseB s.data.toList = parseR (s.size + 1) s.data.toList [] 1 := by
      unfold parseB; rw [if_neg (by rw [← Lib.size_eq]; exact hbig), ← Lib.size_eq]
    obtain ⟨R, hR⟩ : ∃ R, R = parseB s.data.toList := ⟨_, rfl⟩
    rw [← hR] at e ⊢
    have RE := Lib.hid e
    have HL := Lib.hid hL
    have hs2 : s.size ≤ 4194304 := by omega
    clear hbig hR e hL hs
    obtain ⟨i0, hi0, hz0, hz1, hz2⟩ := info_parts infoEv
    go_enter Tryz.func14, Tryz.ntmps14
    go_wp2_with fail
    go_loopw [0, 5, 6] (fun s0 s5 s6 wr => ∃ (tx : ByteArray) (out : List Evt) (n f : Nat) (ao : Option Addr) (cap : Nat), s5 = .slice ao out.length cap ∧ s0 = .string tx ∧ tx.size ≤ 4194304 ∧ s6 = .int .i64 n ∧ n ≤ 4194304 + 1 - tx.size ∧ out.length ≤ 65536 ∧ wr.ownsRow w.heap.size 27 5 (.slice ao out.length cap) out.length (flatE out) ∧ tx.size < f ∧ R = parseR f tx.data.toList out n ∧ Only [] w wr) (fun s0 _ _ _ => strLen s0)
    case atStart => exact ⟨s, [], 1, s.size + 1, none, 0, rfl, rfl, hs2, rfl, by omega, by simp, World.ownsRow_nil _ _ _ _, by omega, RE.out, Only.refl _ _⟩
    case round =>
      obtain ⟨tx, out, n, f, ao, cap, rfl, rfl, htx, rfl, hn, hout, hown, hf, hR, ho⟩ := hrel
      obtain ⟨w3, hw3⟩ : ∃ w3, w3 = wr := ⟨_, rfl⟩
      subst hw3
      have OWN := Lib.hid hown
      have PR := Lib.hid hR
      have O3 := Lib.hid ho
      have HF := Lib.hid hf
      clear hown hR ho
      obtain ⟨m, hm⟩ : ∃ m, m = out.length := ⟨_, rfl⟩
      have HM := Lib.hid hm
      rw [← hm] at OWN hout ⊢
      clear hm
      by_cases hemp : tx.data.toList = []
      · have hte : tx.toList = [] := by rw [Lib.toList_data]; exact hemp
        have FIN : Hid (R = (out, 0, 0)) := Lib.hid (by
          rw [PR.out, hemp]
          cases f with
          | zero => rfl
          | succ f => unfold parseR; rw [if_pos rfl])
        clear hemp hf
        go_wp2_with fail
        go_ret3
        exact ⟨O3.out, .slice ao m cap, by rw [FIN.out]; rfl, by rw [FIN.out]; exact el_owns (by rw [← HM.out]; exact OWN.out)⟩
      · have hte : tx.toList.isEmpty = false := by rw [Lib.toList_data]; cases h : tx.data.toList with
          | nil => exact absurd h hemp
          | cons a l => rfl
        have hte2 : (!tx.toList.isEmpty) = true := by rw [hte]; rfl
        obtain ⟨f, rfl⟩ : ∃ f', f = f' + 1 := ⟨f - 1, by omega⟩
        have hcl := cut_len1 tx.data.toList
        have hcr := fun h => cut_len (tx := tx.data.toList) h
        have CT := cut_any w3 (HL.out.keep0 O3.out) tx ⟨#[10]⟩ (by omega)
        have hsep : (⟨#[10]⟩ : ByteArray).data.toList = [10] := rfl
        rw [hsep] at CT
        obtain ⟨line, hline⟩ : ∃ x, x = (Lib.cut tx.data.toList [10]).1 := ⟨_, rfl⟩
        obtain ⟨rest, hrest⟩ : ∃ x, x = (Lib.cut tx.data.toList [10]).2.1 := ⟨_, rfl⟩
        obtain ⟨wh, hwh⟩ : ∃ x, x = (Lib.cut tx.data.toList [10]).2.2 := ⟨_, rfl⟩
        have P1 : R = if wh = true then match readB ⟨line.toArray⟩ with
            | none => ([], (n : Int), 4)
            | some e => if out.length = 65536 then ([], (n : Int), 2) else parseR f rest (out ++ [e]) ((n : Int) + 1)
          else ([], (n : Int), 4) := by
          rw [PR.out, parseR_succ, if_neg hemp, hline, hrest, hwh]; try rfl
        rw [← hline, ← hrest, ← hwh] at CT
        rw [← hline, ← Lib.size_eq] at hcl
        rw [← hrest, ← hwh, ← Lib.size_eq] at hcr
        have HCR := Lib.hid hcr
        have PP := Lib.hid P1
        have CTH := Lib.hid CT
        have hll : (⟨line.toArray⟩ : ByteArray).size < 4294967281 := by rw [size_list]; omega
        have HLL := Lib.hid hll
        clear hline hrest hwh hsep hcr P1 CT hemp hf hcl hll PR
        go_wp2_with fail
        refine CTH.out.mono ?_; rintro e w4 ⟨rfl, o4⟩
        have O4 := Lib.hid (O3.out.then0 o4)
        have O34 := Lib.hid o4
        have RA := Lib.hid (read_at w4 (HL.out.keep0 O4.out) ⟨line.toArray⟩ HLL.out)
        clear o4
        go_wp2_with fail
        refine RA.out.mono ?_; rintro e w5 ⟨o5, k, a, b, c, d, ok, rfl, h1, h2⟩
        have O5 := Lib.hid (O4.out.then0 o5)
        have H1 := Lib.hid h1
        have H2 := Lib.hid h2
        have OW5 := Lib.hid (owns_only (owns_only OWN.out O34.out) o5)
        clear o5 h1 h2
        cases wh with
        | false =>
          have FIN : Hid (R = ([], (n : Int), 4)) := Lib.hid (by rw [PP.out]; rfl)
          go_wp2_with fail
          go_ret3
          exact ⟨O5.out.alloc _, .slice none 0 0, by rw [FIN.out]; rfl, by rw [FIN.out]; exact ⟨none, 0, rfl, by simp, by simp⟩⟩
        | true =>
          cases ok with
          | false =>
            have FIN : Hid (R = ([], (n : Int), 4)) := Lib.hid (by rw [PP.out, if_pos rfl, H2.out rfl])
            go_wp2_with fail
            go_ret3
            exact ⟨O5.out.alloc _, .slice none 0 0, by rw [FIN.out]; rfl, by rw [FIN.out]; exact ⟨none, 0, rfl, by simp, by simp⟩⟩
          | true =>
            by_cases hfull : m = 65536
            · subst hfull
              have FIN : Hid (R = ([], (n : Int), 2)) := Lib.hid (by rw [PP.out, if_pos rfl, H1.out rfl]; simp only; rw [if_pos HM.out.symm])
              go_wp2_with fail
              go_ret3
              exact ⟨O5.out.alloc _, .slice none 0 0, by rw [FIN.out]; rfl, by rw [FIN.out]; exact ⟨none, 0, rfl, by simp, by simp⟩⟩
            · have hm2 : ((m : Int) == 65536) = false := by simp; omega
              have FIN : Hid (R = parseR f rest (out ++ [⟨k, a, b, c, d⟩]) ((n : Int) + 1)) := Lib.hid (by rw [PP.out, if_pos rfl, H1.out rfl]; simp only; rw [if_neg (by rw [← HM.out]; exact hfull)])
              have LT := Lib.hid (HCR.out rfl).1
              have NEWS := Lib.hid (news_blk (w := (w5.alloc (.cells #[.int .i64 k, .int .i64 a, .int .i64 b, .int .i64 c, .int .i64 d] 27)).alloc (.cells #[.int .i64 k, .int .i64 a, .int .i64 b, .int .i64 c, .int .i64 d] 27)) (b := w5.heap.size + 1) (l := [.int .i64 k, .int .i64 a, .int .i64 b, .int .i64 c, .int .i64 d]) (T := 27) (f := (0, 0)) (by have h := blk_alloc_new (w5.alloc (.cells #[.int .i64 k, .int .i64 a, .int .i64 b, .int .i64 c, .int .i64 d] 27)) (.cells #[.int .i64 k, .int .i64 a, .int .i64 b, .int .i64 c, .int .i64 d] 27); simpa using h))
              have hsz := O5.out.size
              have hmm : m < 65536 := by omega
              clear hfull
              go_wp2_with (at_builtin; refine wpList_append_own _ rfl _ _ 22 rfl w.heap.size 27 i0 (.agg #[.int .i64 0, .int .i64 0, .int .i64 0, .int .i64 0, .int .i64 0]) 5 40 Tryz.underlying22 hi0 hz0 hz1 hz2 rfl (by decide) _ _ _ rfl ((OW5.out.alloc _).alloc _) ⟨w5.heap.size + 1, 0, none⟩ 1 1 [.int .i64 k, .int .i64 a, .int .i64 b, .int .i64 c, .int .i64 d] rfl rfl NEWS.out (by simp [Value.oneCell']) (by unfold maxLen; omega) (by omega) (by first | omega | (simp; omega)) ?_)
              intro v' w7 hown' hgrow _
              obtain ⟨ao7, cap7, hv7⟩ : ∃ ao7 cap7, v' = .slice ao7 (m + 1) cap7 := by
                rcases hown'.2 with ⟨_, h0⟩ | ⟨g, cap7, cur, hv, _⟩
                · omega
                · exact ⟨_, _, hv⟩
              rw [hv7] at hown' ⊢
              clear hv7
              have OW7 := Lib.hid hown'
              have O7 : Hid (Only [] w w7) := Lib.hid (((O5.out.alloc _).alloc _).grown hgrow (fun q hq => .inr (OW5.out.lt q hq).1))
              clear hown' hgrow
              go_wp2_with fail
              go_roundw
              case rel => exact ⟨⟨rest.toArray⟩, out ++ [⟨k, a, b, c, d⟩], n + 1, f, ao7, cap7, by rw [List.length_append, ← HM.out]; rfl, rfl, by rw [size_list]; have := LT.out; omega, by go_num, by rw [size_list]; have := LT.out; omega, by rw [List.length_append, ← HM.out]; simp; omega, by
                rw [flatE_snoc, List.length_append, ← HM.out]; exact OW7.out, by rw [size_list]; have := LT.out; have := HF.out; omega, by rw [FIN.out]; rfl, O7.out⟩
              case measure => simp only [strLen]; rw [size_list]; exact LT.out
end Go.Proofs.YtncnepmgmphanaaGreatDoor

namespace Go.Proofs.YtncnepmgmphanaaGreatDoor
open Go.RowKit
theorem fmt_awake : fmtRes [⟨5, 0, 3, 0, 0⟩] = ([115, 116, 97, 114, 116, 32, 48, 32, 51, 10], 0) := by
  have h1 : validB ⟨5, 0, 3, 0, 0⟩ = true := by decide
  have e0 : Lib.itoa 0 = [48] := by unfold Lib.itoa; rw [if_neg (by omega), Lib.decDigits]; rfl
  have e3 : Lib.itoa 3 = [51] := by unfold Lib.itoa; rw [if_neg (by omega), Lib.decDigits]; rfl
  have hl : lineB ⟨5, 0, 3, 0, 0⟩ = [115, 116, 97, 114, 116, 32, 48, 32, 51, 10] := by
    have hf : formAt 4 = ⟨[115, 116, 97, 114, 116], true, false, false⟩ := rfl
    simp [lineB, lineTo, segB, flAt, usAt, hf, e0, e3]
  simp [fmtRes, h1, fmtB, hl]
theorem parse_awake : parseB [112, 97, 114, 107, 32, 49] = ([], 1, 4) := by
  have hc : (Lib.cut [112, 97, 114, 107, 32, 49] [10]).2.2 = false := by decide
  unfold parseB
  rw [if_neg (by decide), parseR_succ, if_neg (by decide), hc]
  rfl
set_option maxRecDepth 100000 in
set_option maxHeartbeats 1000000 in
theorem awake_any (w : World) (hL : LibAt w) : Calls Tryz.prog 12 #[] w fun e w' => e = .returned (.bool true) ∧ Only [] w w' := by
  obtain ⟨W0, hW0⟩ : ∃ W0, W0 = w.alloc (.cells #[.int .i64 5, .int .i64 0, .int .i64 3, .int .i64 0, .int .i64 0] 27) := ⟨_, rfl⟩
  obtain ⟨b, hb⟩ : ∃ b, b = w.heap.size := ⟨_, rfl⟩
  have hB : W0.heap[b]? = some (.cells #[.int .i64 5, .int .i64 0, .int .i64 3, .int .i64 0, .int .i64 0] 27 (0, 0)) := by rw [hW0, hb]; exact blk_alloc_new _ _
  have O0 : Only [] w W0 := by rw [hW0]; exact (Only.refl _ _).alloc _
  have EL0 : EL W0 (.slice (some ⟨b, 0, none⟩) 1 1) [⟨5, 0, 3, 0, 0⟩] := ⟨_, 1, rfl, Nat.le_refl _, fun _ => ⟨b, 0, rfl, fun i hi => by
    obtain rfl : i = 0 := by simp at hi; omega
    exact ⟨cell_blk hB 0, cell_blk hB 1, cell_blk hB 2, cell_blk hB 3, cell_blk hB 4⟩⟩⟩
  have FA := format_any W0 (hL.keep0 O0) _ _ EL0 (by simp)
  rw [fmt_awake] at FA
  simp only at FA
  have FAH := Lib.hid FA
  have HW0 := Lib.hid hW0
  have HB := Lib.hid hb
  have O0H := Lib.hid O0
  have HL := Lib.hid hL
  clear hW0 hb hB O0 EL0 FA hL
  go_enter Tryz.func12, Tryz.ntmps12
  go_wp2_with fail
  rw [← HW0.out, ← HB.out]
  refine FAH.out.mono ?_; rintro e w1 ⟨rfl, o1⟩
  have O1 := Lib.hid (O0H.out.then0 o1)
  have PA := parse_any w1 (HL.out.keep0 O1.out) ⟨#[112, 97, 114, 107, 32, 49]⟩ (by decide)
  rw [show (⟨#[112, 97, 114, 107, 32, 49]⟩ : ByteArray).data.toList = [112, 97, 114, 107, 32, 49] from rfl, parse_awake] at PA
  have PAH := Lib.hid PA
  clear o1 PA
  go_wp2_with fail
  refine PAH.out.mono ?_; rintro e w2 ⟨o2, v, rfl, hv⟩
  have O2 := Lib.hid (O1.out.then0 o2)
  clear o2 hv
  go_wp2_with fail
  go_ret
  exact ⟨by rfl, O2.out⟩
end Go.Proofs.YtncnepmgmphanaaGreatDoor

namespace Go.Proofs.YtncnepmgmphanaaGreatDoor
open Go.RowKit
theorem histE_any (w : World) (ao sa : Option Addr) (nb cb ns cs : Nat) (hb : BytesAt w ao nb) (hs : BytesAt w sa ns) (hnb : nb ≤ 100000) (hns : ns ≤ 100000) :
    Calls Tryz.prog 8 #[.slice ao nb cb, .slice sa ns cs] w fun e w' => ∃ v l, e = .returned v ∧ EL w' v l ∧ l.length ≤ 200000 ∧ Only [] w w' := by
  refine (history_any w ao sa nb cb ns cs hb hs hnb hns).mono ?_
  rintro e w' ⟨v, N', rfl, hN, hw, hc, hE⟩
  obtain ⟨l, hl, hn⟩ := el_of_ty hw hc
  exact ⟨v, l, rfl, hl, by omega, only_eff hE⟩
theorem flatE_one (l : List Evt) : ∀ u ∈ flatE l, u.oneCell' = true := fun u hu => by
  simp only [flatE, List.mem_flatMap, List.mem_cons, List.not_mem_nil, or_false] at hu
  obtain ⟨e, -, rfl | rfl | rfl | rfl | rfl⟩ := hu <;> rfl
theorem el_news {w : World} {l : List Evt} {b off : Nat} (h : ∀ i, i < l.length → EvCells w b (off + i * 5) (l.getD i Evt.zero)) : ∀ j u, (flatE l)[j]? = some u → w.cell? ((⟨b, off, none⟩ : Addr).add j) = some u := fun j u hj => by
  rw [Go.WideShapes.add_plain]
  have hl : j < l.length * 5 := by rw [← flatE_len]; exact (List.getElem?_eq_some_iff.1 hj).1
  obtain ⟨i, hi⟩ : ∃ i, i = j / 5 := ⟨_, rfl⟩
  have hil : i < l.length := by omega
  obtain ⟨c0, c1, c2, c3, c4⟩ := h i hil
  obtain ⟨d0, d1, d2, d3, d4⟩ := flatE_at l i hil
  rcases (show j = i * 5 ∨ j = i * 5 + 1 ∨ j = i * 5 + 2 ∨ j = i * 5 + 3 ∨ j = i * 5 + 4 from by omega) with e | e | e | e | e <;> rw [e] at hj ⊢ <;> (try simp only [← Nat.add_assoc])
  · rw [d0] at hj; cases hj; exact c0
  · rw [d1] at hj; cases hj; exact c1
  · rw [d2] at hj; cases hj; exact c2
  · rw [d3] at hj; cases hj; exact c3
  · rw [d4] at hj; cases hj; exact c4
theorem el_set {w : World} {l : List Evt} {g cap x : Nat} {o : Int} (h : EL w (.slice (some ⟨g, 0, none⟩) l.length cap) l) (hx : x < l.length) : EL (w.setCell ⟨g, x * 5 + 3, none⟩ (.int .i64 o)) (.slice (some ⟨g, 0, none⟩) l.length cap) (l.set x { l.getD x Evt.zero with other := o }) := by
  obtain ⟨ao, cap', e, hc, hh⟩ := h
  cases e
  obtain ⟨b, off, e, hg⟩ := hh (by omega)
  cases e
  refine ⟨_, cap, by rw [List.length_set], by rw [List.length_set]; exact hc, fun _ => ⟨g, 0, rfl, fun i hi => ?_⟩⟩
  rw [List.length_set] at hi
  obtain ⟨c0, c1, c2, c3, c4⟩ := hg i hi
  have ne : ∀ {j : Nat} {v : Value}, j ≠ x * 5 + 3 → w.cell? ⟨g, j, none⟩ = some v → (w.setCell ⟨g, x * 5 + 3, none⟩ (.int .i64 o)).cell? ⟨g, j, none⟩ = some v := fun {j v} hj hv => by
    have hne : (⟨g, x * 5 + 3, none⟩ : Addr) ≠ ⟨g, j, none⟩ := by intro e; injection e with _ e2; exact hj e2.symm
    rw [World.cell?_setCell_other (h := hne)]
    exact hv
  by_cases hix : i = x
  · subst hix
    have : (l.set i { l.getD i Evt.zero with other := o }).getD i Evt.zero = { l.getD i Evt.zero with other := o } := by
      rw [List.getD_eq_getElem?_getD, List.getElem?_set_self hi]
      rfl
    rw [this]
    simp only [Nat.zero_add] at c0 c1 c2 c3 c4 ⊢
    refine ⟨ne (by omega) c0, ne (by omega) c1, ne (by omega) c2, ?_, ne (by omega) c4⟩
    exact World.cell?_setCell_same _ _ _ c3
  · have : (l.set x { l.getD x Evt.zero with other := o }).getD i Evt.zero = l.getD i Evt.zero := by
      rw [List.getD_eq_getElem?_getD, List.getElem?_set_ne (Ne.symm hix), List.getD_eq_getElem?_getD]
    rw [this]
    simp only [Nat.zero_add] at c0 c1 c2 c3 c4 ⊢
    exact ⟨ne (by omega) c0, ne (by omega) c1, ne (by omega) c2, ne (by omega) c3, ne (by omega) c4⟩
set_option maxRecDepth 100000 in
set_option maxHeartbeats 4000000 in
theorem EventsFormats_any (w : World) (hL : LibAt w) (v : Value) (l : List Evt) (hE : EL w v l) (hn : l.length ≤ 9223372036854775807) (ao : Option Addr) (nb cb : Nat) (hb : BytesAt w ao nb) (hnb : nb ≤ 9223372036854775807) (sa : Option Addr) (ns cs : Nat) (hs : BytesAt w sa ns) (hns : ns ≤ 9223372036854775807) (z : Int) (near : Bool) :
    Calls Tryz.prog 3 #[v, .slice ao nb cb, .slice sa ns cs, .int .i64 z, .bool near] w fun e w' => e = .returned (.bool true) ∧ Only [] w w' := by
  have HE := Lib.hid hE
  have HL := Lib.hid hL
  have HB := Lib.hid (And.intro hb hs)
  obtain ⟨al, cl, rfl, hcl, -⟩ := hE
  obtain ⟨n, hnn⟩ : ∃ n, n = l.length := ⟨_, rfl⟩
  have HN := Lib.hid hnn
  rw [← hnn] at hn ⊢
  have SH := Lib.hid (short0_any w ao nb cb hnb)
  clear hL hb hs hcl hnn
  by_cases h300 : 300 < n
  · go_enter Tryz.func3, Tryz.ntmps3
    have h3 : (300 : Int) < (n : Int) := by omega
    go_wp2_with fail
    go_ret
    exact ⟨rfl, Only.refl _ _⟩
  have h3 : ¬ (300 : Int) < (n : Int) := by omega
  by_cases h400 : nb ≤ 400
  rotate_left
  · rw [decide_eq_false h400] at SH
    go_enter Tryz.func3, Tryz.ntmps3
    go_wp2_with fail
    refine SH.out.mono ?_; rintro e w' ⟨rfl, rfl⟩
    go_wp2_with fail
    go_ret
    exact ⟨rfl, Only.refl _ _⟩
  rw [decide_eq_true h400] at SH
  by_cases h600 : 600 < ns
  · have h6 : (600 : Int) < (ns : Int) := by omega
    go_enter Tryz.func3, Tryz.ntmps3
    go_wp2_with fail
    refine SH.out.mono ?_; rintro e w' ⟨rfl, rfl⟩
    go_wp2_with fail
    go_ret
    exact ⟨rfl, Only.refl _ _⟩
  have h6 : ¬ (600 : Int) < (ns : Int) := by omega
  go_enter Tryz.func3, Tryz.ntmps3
  go_wp2_with fail
  refine SH.out.mono ?_; rintro e w' ⟨rfl, rfl⟩
  go_upto_if 28 with fail
  go_cut [0] (fun s0 wx => ∃ l1, EL wx s0 l1 ∧ l1.length ≤ 200000 ∧ Only [] w wx)
  case first =>
    cases near with
    | false =>
      go_wp2_with fail
      go_meet
      exact ⟨l, by have := HE.out; rwa [← HN.out] at this, by have := HN.out; omega, Only.refl _ _⟩
    | true =>
      go_wp2_with fail
      refine (histE_any w ao sa nb cb ns cs HB.out.1 HB.out.2 (by omega) (by omega)).mono ?_
      rintro e w1 ⟨v1, l1, rfl, hE1', hl1, o1⟩
      have hE1 := hE1'
      obtain ⟨al1, cl1, hv1, -, hh1⟩ := hE1
      subst hv1
      have HE1 := Lib.hid hE1'
      have O1 := Lib.hid o1
      obtain ⟨n1, hn1⟩ : ∃ n1, n1 = l1.length := ⟨_, rfl⟩
      have HN1 := Lib.hid hn1
      have HL1 := Lib.hid hl1
      have hn200 : n1 ≤ 200000 := by omega
      rw [← hn1] at hh1 ⊢
      clear hE1' o1 hl1
      by_cases h0 : 0 < n1
      rotate_left
      · have h0' : ¬ (0 : Int) < (n1 : Int) := by omega
        go_wp2_with fail
        go_meet
        exact ⟨l1, by have := HE1.out; rwa [← HN1.out] at this, HL1.out, O1.out⟩
      have h0' : (0 : Int) < (n1 : Int) := by omega
      by_cases hz : z.tmod 3 = 0
      rotate_left
      · go_wp2_with fail
        go_meet
        exact ⟨l1, by have := HE1.out; rwa [← HN1.out] at this, HL1.out, O1.out⟩
      obtain ⟨b1, off1, rfl, hg1⟩ := hh1 h0
      rw [hn1] at hg1
      have NW := Lib.hid (el_news hg1)
      obtain ⟨i, hi, hz0, hsz, hby⟩ := info_parts infoEv
      have OZ := Lib.hid (show Only [] w1 (w1.alloc (.cells #[] 27)) from (Only.refl _ _).alloc _)
      have OWN := Lib.hid (show (w1.alloc (.cells #[] 27)).ownsRow w1.heap.size 27 5 (.slice (some ⟨w1.heap.size, 0, none⟩) 0 0) 0 [] from ⟨rfl, .inr ⟨w1.heap.size, 0, #[], rfl, Nat.le_refl _, blk_alloc_new _ _, Nat.le_refl _, by decide, rfl, rfl⟩⟩)
      have NWZ := Lib.hid (show ∀ j u, (flatE l1)[j]? = some u → (w1.alloc (.cells #[] 27)).cell? ((⟨b1, off1, none⟩ : Addr).add j) = some u from fun j u hj => OZ.out.keepCell (NW.out j u hj) (by simp))
      have FL := Lib.hid (show (flatE l1).length = n1 * 5 by rw [flatE_len, hn1])
      have hmx : 0 + n1 ≤ maxLen := by unfold maxLen; omega
      have hbx : (0 + n1) * 40 ≤ 140737488355328 := by omega
      have hsx : w1.heap.size ≤ (w1.alloc (.cells #[] 27)).heap.size := OZ.out.size
      clear hg1 hn1
      go_wp2_with (at_builtin; refine wpList_append_own _ rfl _ _ 22 rfl w1.heap.size 27 i _ 5 40 Tryz.underlying22 hi hz0 hsz hby rfl (by decide) (.slice (some ⟨w1.heap.size, 0, none⟩) 0 0) 0 [] rfl OWN.out ⟨b1, off1, none⟩ n1 cl1 (flatE l1) rfl FL.out NWZ.out (flatE_one _) hmx hbx hsx ?_)
      intro v2 w2 hown2 hgrow2 hnil2
      have P2 := Lib.hid (OZ.out.grown hgrow2 (by simp [Value.ownBlock]))
      have W2 : Hid (w2.ownsRow w1.heap.size 27 5 v2 l1.length (flatE l1)) := Lib.hid (by rw [HN1.out] at hown2; simpa using hown2)
      have E2 := Lib.hid (el_owns W2.out)
      obtain ⟨-, ⟨rfl, h00⟩ | ⟨g, c2, cur, rfl, hgb, hgh, -, -, -, -⟩⟩ := W2.out
      · have := HN1.out; omega
      clear hown2 hgrow2 hnil2 OWN NWZ
      have N2 := Lib.hid (number_any (w2.alloc (.cells #[.int .i64 z] 3)) (.slice (some ⟨w2.heap.size, 0, none⟩) 1 1) [z] 0 n1 (ns_new [z] (blk_alloc_new _ _) rfl) (by omega) (by simp) (by omega))
      have HGH := Lib.hid (And.intro hgb hgh)
      clear hgb hgh
      rw [← HN1.out]
      go_wp2_with fail
      refine N2.out.mono ?_; rintro e w3 ⟨x, rfl, hx0, hx1, o3⟩
      have hx2 := hx1 (by omega)
      obtain ⟨xn, rfl⟩ : ∃ xn : Nat, x = xn := ⟨x.toNat, by omega⟩
      have O3 := Lib.hid (((Only.refl [] w2).alloc (.cells #[.int .i64 z] 3)).then0 o3)
      have hxn : xn < n1 := by omega
      have HX := Lib.hid hx2
      have E3 := Lib.hid (E2.out.keep O3.out)
      have hgh3 := O3.out.keep HGH.out.2 (by simp)
      have f3 := free_blk hgh3 (xn * 5 + 3)
      obtain ⟨ao3, c3, e3, -, hh3⟩ := E3.out
      cases e3
      obtain ⟨b3, off3, e3', hc3⟩ := hh3 (by rw [← HN1.out]; omega)
      cases e3'
      obtain ⟨-, -, -, q3, -⟩ := hc3 xn (by rw [← HN1.out]; exact hxn)
      rw [Nat.zero_add] at q3
      obtain ⟨o, ho⟩ : ∃ o, o = (l1.getD xn Evt.zero).other := ⟨_, rfl⟩
      rw [← ho] at q3
      clear o3 hx1 hh3 hc3 ho hgh3
      go_wp2_with fail
      go_meet
      refine ⟨_, by rw [HN1.out]; exact el_set E3.out (by rw [← HN1.out]; exact hxn), by rw [List.length_set]; exact HL1.out, ?_⟩
      exact ((O1.out.then0 P2.out).then0 O3.out).setCell (.inr (Nat.le_trans O1.out.size HGH.out.1)) _
  case rest =>
    obtain ⟨l1, hE1, hl1, o1⟩ := hcut
    have HE1 := Lib.hid hE1
    have O1 := Lib.hid o1
    have L1 := Lib.hid (HL.out.keep0 o1)
    have FM := format_any wc L1.out _ l1 hE1 (by omega)
    change Calls _ _ _ _ (fun e w' => e = .returned (.tuple #[.string (bs (fmtRes l1).1), .int .i64 (fmtRes l1).2]) ∧ Only [] wc w') at FM
    have RF := fun (w' : World) (o : Only [] wc w') => refFormat_any w' _ l1 (HE1.out.keep o) (by omega)
    obtain ⟨S, hS⟩ : ∃ S, S = bs (fmtRes l1).1 := ⟨_, rfl⟩
    obtain ⟨c, hc⟩ : ∃ c, c = (fmtRes l1).2 := ⟨_, rfl⟩
    rw [← hS, ← hc] at FM
    simp only [← hS, ← hc] at RF
    have FMH := Lib.hid FM
    have RFH := Lib.hid RF
    clear FM RF hS hc hE1 o1
    go_wp2_with fail
    refine FMH.out.mono ?_; rintro e w2 ⟨rfl, o2⟩
    have O2 := Lib.hid o2
    clear o2
    go_wp2_with fail
    refine (RFH.out _ O2.out).mono ?_; rintro e w3 ⟨rfl, o3⟩
    have O3 := Lib.hid (O2.out.then0 o3)
    clear o3
    go_wp2_with fail
    refine (awake_any _ (L1.out.keep0 O3.out)).mono ?_; rintro e w4 ⟨rfl, o4⟩
    have O4 := Lib.hid ((O1.out.then0 O3.out).then0 o4)
    clear o4
    go_wp2_with fail
    go_ret
    exact ⟨rfl, O4.out⟩
end Go.Proofs.YtncnepmgmphanaaGreatDoor
