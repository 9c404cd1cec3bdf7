/- The events of a text: plain. No condition. -/
import Derived.Test.YtncnepmgmphanaaGreatDoorMg26
import Derived.Test.YtncnepmgmphanaaGreatDoorEvRead
import Derived.Test.YtncnepmgmphanaaGreatDoorMg02
import Derived.Laws.BytesArg
import Derived.Lib.ItoaNum
import Derived.Deep.LoopGhost
import Derived.Test.YtncnepmgmphanaaGreatDoorMg25
import Derived.Deep.RegionHeld3
import Derived.Deep.DeepCutAuto
import Derived.Lib.AppendStr
import Derived.Laws.IdiomStrings
set_option linter.unusedVariables false
set_option linter.unusedSimpArgs false
set_option linter.unusedSectionVars false
namespace Go.Proofs.YtncnepmgmphanaaGreatDoor
open Go.RowKit
def parseR : Nat → List UInt8 → List Evt → Int → List Evt × Int × Int
  | 0, _, out, _ => (out, 0, 0)
  | f + 1, tx, out, n =>
    if tx = [] then (out, 0, 0) else
    if (Lib.cut tx [10]).2.2 = true then match readB ⟨(Lib.cut tx [10]).1.toArray⟩ with
      | none => ([], n, 4)
      | some e => if out.length = 65536 then ([], n, 2) else parseR f (Lib.cut tx [10]).2.1 (out ++ [e]) (n + 1)
    else ([], n, 4)
theorem parseR_succ (f : Nat) (tx : List UInt8) (out : List Evt) (n : Int) : parseR (f + 1) tx out n = if tx = [] then (out, 0, 0) else
    if (Lib.cut tx [10]).2.2 = true then match readB ⟨(Lib.cut tx [10]).1.toArray⟩ with
      | none => ([], n, 4)
      | some e => if out.length = 65536 then ([], n, 2) else parseR f (Lib.cut tx [10]).2.1 (out ++ [e]) (n + 1)
    else ([], n, 4) := rfl
def parseB (tx : List UInt8) : List Evt × Int × Int := if 4194304 < tx.length then ([], 0, 2) else parseR (tx.length + 1) tx [] 1
theorem cut_len {tx : List UInt8} (h : (Lib.cut tx [10]).2.2 = true) : (Lib.cut tx [10]).2.1.length < tx.length ∧ (Lib.cut tx [10]).1.length ≤ tx.length := by
  unfold Lib.cut at h ⊢
  split
  · rename_i hi
    simp only [List.length_drop, List.length_take, List.length_cons, List.length_nil]
    cases tx with
    | nil => exact absurd hi (by decide)
    | cons a l => simp only [List.length_cons]; omega
  · rename_i hi
    rw [if_neg hi] at h
    cases h
theorem cut_len1 (tx : List UInt8) : (Lib.cut tx [10]).1.length ≤ tx.length := by
  unfold Lib.cut
  split
  · simp only [List.length_take]; omega
  · exact Nat.le_refl _
def flatE (l : List Evt) : List Value := l.flatMap fun e => [.int .i64 e.kind, .int .i64 e.worker, .int .i64 e.task, .int .i64 e.other, .int .i64 e.level]
theorem flatE_snoc (l : List Evt) (e : Evt) : flatE (l ++ [e]) = flatE l ++ [.int .i64 e.kind, .int .i64 e.worker, .int .i64 e.task, .int .i64 e.other, .int .i64 e.level] := by simp [flatE]
theorem flatE_at (l : List Evt) : ∀ i, i < l.length → (flatE l)[i * 5]? = some (.int .i64 (l.getD i Evt.zero).kind) ∧ (flatE l)[i * 5 + 1]? = some (.int .i64 (l.getD i Evt.zero).worker) ∧ (flatE l)[i * 5 + 2]? = some (.int .i64 (l.getD i Evt.zero).task) ∧ (flatE l)[i * 5 + 3]? = some (.int .i64 (l.getD i Evt.zero).other) ∧ (flatE l)[i * 5 + 4]? = some (.int .i64 (l.getD i Evt.zero).level) := by
  induction l with
  | nil => intro i h; simp at h
  | cons a l ih =>
    intro i h
    cases i with
    | zero => exact ⟨rfl, rfl, rfl, rfl, rfl⟩
    | succ i =>
      obtain ⟨h0, h1, h2, h3, h4⟩ := ih i (by simpa using h)
      have e : ∀ j, (flatE (a :: l))[(i + 1) * 5 + j]? = (flatE l)[i * 5 + j]? := fun j => by
        rw [show (i + 1) * 5 + j = (i * 5 + j) + 5 by omega]; rfl
      have e0 := e 0
      simp only [Nat.add_zero] at e0
      rw [e0, e 1, e 2, e 3, e 4]
      exact ⟨h0, h1, h2, h3, h4⟩
theorem el_owns {w : World} {B : Nat} {T : TypeId} {v : Value} {l : List Evt} (h : w.ownsRow B T 5 v l.length (flatE l)) : EL w v l := by
  obtain ⟨hl, ⟨rfl, h0⟩ | ⟨g, cap, cur, rfl, hb, hh, hn, hm, hs, ht⟩⟩ := h
  · exact ⟨none, 0, by rw [h0], by omega, fun h => by omega⟩
  · refine ⟨_, cap, rfl, hn, fun _ => ⟨g, 0, rfl, fun i hi => ?_⟩⟩
    have at' : ∀ j v, (flatE l)[j]? = some v → w.cell? ⟨g, j, none⟩ = some v := fun j v hj => by
      rw [cell_blk hh]
      rw [← ht, List.getElem?_take] at hj
      split at hj
      · simpa using hj
      · cases hj
    obtain ⟨h0, h1, h2, h3, h4⟩ := flatE_at l i hi
    rw [Nat.zero_add]
    exact ⟨at' _ _ h0, at' _ _ h1, at' _ _ h2, at' _ _ h3, at' _ _ h4⟩
end Go.Proofs.YtncnepmgmphanaaGreatDoor

namespace Go.Proofs.YtncnepmgmphanaaGreatDoor
open Go.RowKit
theorem infoEv : (Tryz.prog.info? 27).map (fun i => (i.zero, i.size, i.bytes)) = some (some (.agg #[.int .i64 0, .int .i64 0, .int .i64 0, .int .i64 0, .int .i64 0]), 5, 40) := by kernel_rfl
theorem news_blk {w : World} {b : Nat} {l : List Value} {T : TypeId} {f : Nat × Nat} (h : w.heap[b]? = some (.cells l.toArray T f)) : ∀ j u, l[j]? = some u → w.cell? ((⟨b, 0, none⟩ : Addr).add j) = some u := by
  intro j u hu
  rw [Go.WideShapes.add_plain, Nat.zero_add, cell_blk h]
  simpa using hu
def strLen : Value → Nat
  | .string b => b.size
  | _ => 0
theorem owns_only {w w' : World} {B : Nat} {T : TypeId} {sz : Nat} {v : Value} {n : Nat} {xs : List Value} (h : w.ownsRow B T sz v n xs) (o : Only [] w w') : w'.ownsRow B T sz v n xs :=
  h.kept (row := none) ⟨o.os, o.tape, o.output, o.size, fun k hk _ => o.block k hk (by simp)⟩ (by cases v.ownBlock <;> simp)
theorem read_at (w : World) (hL : LibAt w) (s : ByteArray) (hs : s.size < 4294967281) :
    Calls Tryz.prog 34 #[.string s] w fun e w' => Only [] w w' ∧ ∃ (k a b c d : Int) (ok : Bool), e = .returned (.tuple #[.agg #[.int .i64 k, .int .i64 a, .int .i64 b, .int .i64 c, .int .i64 d], .bool ok]) ∧ (ok = true → readB s = some ⟨k, a, b, c, d⟩) ∧ (ok = false → readB s = none) :=
  (read_any w hL s hs).mono (by
    rintro e w' ⟨o, ⟨k, a, b, c, d⟩, ok, rfl, h1, h2⟩
    exact ⟨o, k, a, b, c, d, ok, rfl, h1, h2⟩)
def ParsePost (w : World) (r : List Evt × Int × Int) (e : Ending) (w' : World) : Prop :=
  Only [] w w' ∧ ∃ v, e = .returned (.tuple #[v, .int .i64 r.2.1, .int .i64 r.2.2]) ∧ EL w' v r.1
set_option maxRecDepth 100000 in
set_option maxHeartbeats 4000000 in
theorem parse_any (w : World) (hL : LibAt w) (s : ByteArray) (hs : s.size ≤ 9223372036854775807) :
    Calls Tryz.prog 14 #[.string s] w (ParsePost w (parseB s.data.toList)) := by
  by_cases hbig : 4194304 < s.size
  · have e : parseB s.data.toList = ([], 0, 2) := by
      unfold parseB; rw [if_pos (by rw [← Lib.size_eq]; exact hbig)]
    rw [e]
    clear e
    go_enter Tryz.func14, Tryz.ntmps14
    go_wp2_with fail
    go_ret3
    exact ⟨Only.refl _ _, _, rfl, none, 0, rfl, by simp, by simp⟩
  · have e : parseB s.data.toList = parseR (s.size + 1) s.data.toList [] 1 := by
      unfold parseB; rw [if_neg (by rw [← Lib.size_eq]; exact hbig), ← Lib.size_eq]
    obtain ⟨R, hR⟩ : ∃ R, R = parseB s.data.toList := ⟨_, rfl⟩
    rw [← hR] at e ⊢
    have RE := Lib.hid e
    have HL := Lib.hid hL
    have hs2 : s.size ≤ 4194304 := by omega
    clear hbig hR e hL hs
    obtain ⟨i0, hi0, hz0, hz1, hz2⟩ := info_parts infoEv
    go_enter Tryz.func14, Tryz.ntmps14
    go_wp2_with fail
    go_loopw [0, 5, 6] (fun s0 s5 s6 wr => ∃ (tx : ByteArray) (out : List Evt) (n f : Nat) (ao : Option Addr) (cap : Nat), s5 = .slice ao out.length cap ∧ s0 = .string tx ∧ tx.size ≤ 4194304 ∧ s6 = .int .i64 n ∧ n ≤ 4194304 + 1 - tx.size ∧ out.length ≤ 65536 ∧ wr.ownsRow w.heap.size 27 5 (.slice ao out.length cap) out.length (flatE out) ∧ tx.size < f ∧ R = parseR f tx.data.toList out n ∧ Only [] w wr) (fun s0 _ _ _ => strLen s0)
    case atStart => exact ⟨s, [], 1, s.size + 1, none, 0, rfl, rfl, hs2, rfl, by omega, by simp, World.ownsRow_nil _ _ _ _, by omega, RE.out, Only.refl _ _⟩
    case round =>
      obtain ⟨tx, out, n, f, ao, cap, rfl, rfl, htx, rfl, hn, hout, hown, hf, hR, ho⟩ := hrel
      obtain ⟨w3, hw3⟩ : ∃ w3, w3 = wr := ⟨_, rfl⟩
      subst hw3
      have OWN := Lib.hid hown
      have PR := Lib.hid hR
      have O3 := Lib.hid ho
      have HF := Lib.hid hf
      clear hown hR ho
      obtain ⟨m, hm⟩ : ∃ m, m = out.length := ⟨_, rfl⟩
      have HM := Lib.hid hm
      rw [← hm] at OWN hout ⊢
      clear hm
      by_cases hemp : tx.data.toList = []
      · have hte : tx.toList = [] := by rw [Lib.toList_data]; exact hemp
        have FIN : Hid (R = (out, 0, 0)) := Lib.hid (by
          rw [PR.out, hemp]
          cases f with
          | zero => rfl
          | succ f => unfold parseR; rw [if_pos rfl])
        clear hemp hf
        go_wp2_with fail
        go_ret3
        exact ⟨O3.out, .slice ao m cap, by rw [FIN.out]; rfl, by rw [FIN.out]; exact el_owns (by rw [← HM.out]; exact OWN.out)⟩
      · have hte : tx.toList.isEmpty = false := by rw [Lib.toList_data]; cases h : tx.data.toList with
          | nil => exact absurd h hemp
          | cons a l => rfl
        have hte2 : (!tx.toList.isEmpty) = true := by rw [hte]; rfl
        obtain ⟨f, rfl⟩ : ∃ f', f = f' + 1 := ⟨f - 1, by omega⟩
        have hcl := cut_len1 tx.data.toList
        have hcr := fun h => cut_len (tx := tx.data.toList) h
        have CT := cut_any w3 (HL.out.keep0 O3.out) tx ⟨#[10]⟩ (by omega)
        have hsep : (⟨#[10]⟩ : ByteArray).data.toList = [10] := rfl
        rw [hsep] at CT
        obtain ⟨line, hline⟩ : ∃ x, x = (Lib.cut tx.data.toList [10]).1 := ⟨_, rfl⟩
        obtain ⟨rest, hrest⟩ : ∃ x, x = (Lib.cut tx.data.toList [10]).2.1 := ⟨_, rfl⟩
        obtain ⟨wh, hwh⟩ : ∃ x, x = (Lib.cut tx.data.toList [10]).2.2 := ⟨_, rfl⟩
        have P1 : R = if wh = true then match readB ⟨line.toArray⟩ with
            | none => ([], (n : Int), 4)
            | some e => if out.length = 65536 then ([], (n : Int), 2) else parseR f rest (out ++ [e]) ((n : Int) + 1)
          else ([], (n : Int), 4) := by
          rw [PR.out, parseR_succ, if_neg hemp, hline, hrest, hwh]; try rfl
        rw [← hline, ← hrest, ← hwh] at CT
        rw [← hline, ← Lib.size_eq] at hcl
        rw [← hrest, ← hwh, ← Lib.size_eq] at hcr
        have HCR := Lib.hid hcr
        have PP := Lib.hid P1
        have CTH := Lib.hid CT
        have hll : (⟨line.toArray⟩ : ByteArray).size < 4294967281 := by rw [size_list]; omega
        have HLL := Lib.hid hll
        clear hline hrest hwh hsep hcr P1 CT hemp hf hcl hll PR
        go_wp2_with fail
        refine CTH.out.mono ?_; rintro e w4 ⟨rfl, o4⟩
        have O4 := Lib.hid (O3.out.then0 o4)
        have O34 := Lib.hid o4
        have RA := Lib.hid (read_at w4 (HL.out.keep0 O4.out) ⟨line.toArray⟩ HLL.out)
        clear o4
        go_wp2_with fail
        refine RA.out.mono ?_; rintro e w5 ⟨o5, k, a, b, c, d, ok, rfl, h1, h2⟩
        have O5 := Lib.hid (O4.out.then0 o5)
        have H1 := Lib.hid h1
        have H2 := Lib.hid h2
        have OW5 := Lib.hid (owns_only (owns_only OWN.out O34.out) o5)
        clear o5 h1 h2
        cases wh with
        | false =>
          have FIN : Hid (R = ([], (n : Int), 4)) := Lib.hid (by rw [PP.out]; rfl)
          go_wp2_with fail
          go_ret3
          exact ⟨O5.out.alloc _, .slice none 0 0, by rw [FIN.out]; rfl, by rw [FIN.out]; exact ⟨none, 0, rfl, by simp, by simp⟩⟩
        | true =>
          cases ok with
          | false =>
            have FIN : Hid (R = ([], (n : Int), 4)) := Lib.hid (by rw [PP.out, if_pos rfl, H2.out rfl])
            go_wp2_with fail
            go_ret3
            exact ⟨O5.out.alloc _, .slice none 0 0, by rw [FIN.out]; rfl, by rw [FIN.out]; exact ⟨none, 0, rfl, by simp, by simp⟩⟩
          | true =>
            by_cases hfull : m = 65536
            · subst hfull
              have FIN : Hid (R = ([], (n : Int), 2)) := Lib.hid (by rw [PP.out, if_pos rfl, H1.out rfl]; simp only; rw [if_pos HM.out.symm])
              go_wp2_with fail
              go_ret3
              exact ⟨O5.out.alloc _, .slice none 0 0, by rw [FIN.out]; rfl, by rw [FIN.out]; exact ⟨none, 0, rfl, by simp, by simp⟩⟩
            · have hm2 : ((m : Int) == 65536) = false := by simp; omega
              have FIN : Hid (R = parseR f rest (out ++ [⟨k, a, b, c, d⟩]) ((n : Int) + 1)) := Lib.hid (by rw [PP.out, if_pos rfl, H1.out rfl]; simp only; rw [if_neg (by rw [← HM.out]; exact hfull)])
              have LT := Lib.hid (HCR.out rfl).1
              have NEWS := Lib.hid (news_blk (w := (w5.alloc (.cells #[.int .i64 k, .int .i64 a, .int .i64 b, .int .i64 c, .int .i64 d] 27)).alloc (.cells #[.int .i64 k, .int .i64 a, .int .i64 b, .int .i64 c, .int .i64 d] 27)) (b := w5.heap.size + 1) (l := [.int .i64 k, .int .i64 a, .int .i64 b, .int .i64 c, .int .i64 d]) (T := 27) (f := (0, 0)) (by have h := blk_alloc_new (w5.alloc (.cells #[.int .i64 k, .int .i64 a, .int .i64 b, .int .i64 c, .int .i64 d] 27)) (.cells #[.int .i64 k, .int .i64 a, .int .i64 b, .int .i64 c, .int .i64 d] 27); simpa using h))
              have hsz := O5.out.size
              have hmm : m < 65536 := by omega
              clear hfull
              go_wp2_with (at_builtin; refine wpList_append_own _ rfl _ _ 22 rfl w.heap.size 27 i0 (.agg #[.int .i64 0, .int .i64 0, .int .i64 0, .int .i64 0, .int .i64 0]) 5 40 Tryz.underlying22 hi0 hz0 hz1 hz2 rfl (by decide) _ _ _ rfl ((OW5.out.alloc _).alloc _) ⟨w5.heap.size + 1, 0, none⟩ 1 1 [.int .i64 k, .int .i64 a, .int .i64 b, .int .i64 c, .int .i64 d] rfl rfl NEWS.out (by simp [Value.oneCell']) (by unfold maxLen; omega) (by omega) (by first | omega | (simp; omega)) ?_)
              intro v' w7 hown' hgrow _
              obtain ⟨ao7, cap7, hv7⟩ : ∃ ao7 cap7, v' = .slice ao7 (m + 1) cap7 := by
                rcases hown'.2 with ⟨_, h0⟩ | ⟨g, cap7, cur, hv, _⟩
                · omega
                · exact ⟨_, _, hv⟩
              rw [hv7] at hown' ⊢
              clear hv7
              have OW7 := Lib.hid hown'
              have O7 : Hid (Only [] w w7) := Lib.hid (((O5.out.alloc _).alloc _).grown hgrow (fun q hq => .inr (OW5.out.lt q hq).1))
              clear hown' hgrow
              go_wp2_with fail
              go_roundw
              case rel => exact ⟨⟨rest.toArray⟩, out ++ [⟨k, a, b, c, d⟩], n + 1, f, ao7, cap7, by rw [List.length_append, ← HM.out]; rfl, rfl, by rw [size_list]; have := LT.out; omega, by go_num, by rw [size_list]; have := LT.out; omega, by rw [List.length_append, ← HM.out]; simp; omega, by
                rw [flatE_snoc, List.length_append, ← HM.out]; exact OW7.out, by rw [size_list]; have := LT.out; have := HF.out; omega, by rw [FIN.out]; rfl, O7.out⟩
              case measure => simp only [strLen]; rw [size_list]; exact LT.out
end Go.Proofs.YtncnepmgmphanaaGreatDoor

namespace Go.Proofs.YtncnepmgmphanaaGreatDoor
open Go.RowKit
theorem fmt_awake : fmtRes [⟨5, 0, 3, 0, 0⟩] = ([115, 116, 97, 114, 116, 32, 48, 32, 51, 10], 0) := by
  have h1 : validB ⟨5, 0, 3, 0, 0⟩ = true := by decide
  have e0 : Lib.itoa 0 = [48] := by unfold Lib.itoa; rw [if_neg (by omega), Lib.decDigits]; rfl
  have e3 : Lib.itoa 3 = [51] := by unfold Lib.itoa; rw [if_neg (by omega), Lib.decDigits]; rfl
  have hl : lineB ⟨5, 0, 3, 0, 0⟩ = [115, 116, 97, 114, 116, 32, 48, 32, 51, 10] := by
    have hf : formAt 4 = ⟨[115, 116, 97, 114, 116], true, false, false⟩ := rfl
    simp [lineB, lineTo, segB, flAt, usAt, hf, e0, e3]
  simp [fmtRes, h1, fmtB, hl]
theorem parse_awake : parseB [112, 97, 114, 107, 32, 49] = ([], 1, 4) := by
  have hc : (Lib.cut [112, 97, 114, 107, 32, 49] [10]).2.2 = false := by decide
  unfold parseB
  rw [if_neg (by decide), parseR_succ, if_neg (by decide), hc]
  rfl
set_option maxRecDepth 100000 in
set_option maxHeartbeats 1000000 in
theorem awake_any (w : World) (hL : LibAt w) : Calls Tryz.prog 12 #[] w fun e w' => e = .returned (.bool true) ∧ Only [] w w' := by
  obtain ⟨W0, hW0⟩ : ∃ W0, W0 = w.alloc (.cells #[.int .i64 5, .int .i64 0, .int .i64 3, .int .i64 0, .int .i64 0] 27) := ⟨_, rfl⟩
  obtain ⟨b, hb⟩ : ∃ b, b = w.heap.size := ⟨_, rfl⟩
  have hB : W0.heap[b]? = some (.cells #[.int .i64 5, .int .i64 0, .int .i64 3, .int .i64 0, .int .i64 0] 27 (0, 0)) := by rw [hW0, hb]; exact blk_alloc_new _ _
  have O0 : Only [] w W0 := by rw [hW0]; exact (Only.refl _ _).alloc _
  have EL0 : EL W0 (.slice (some ⟨b, 0, none⟩) 1 1) [⟨5, 0, 3, 0, 0⟩] := ⟨_, 1, rfl, Nat.le_refl _, fun _ => ⟨b, 0, rfl, fun i hi => by
    obtain rfl : i = 0 := by simp at hi; omega
    exact ⟨cell_blk hB 0, cell_blk hB 1, cell_blk hB 2, cell_blk hB 3, cell_blk hB 4⟩⟩⟩
  have FA := format_any W0 (hL.keep0 O0) _ _ EL0 (by simp)
  rw [fmt_awake] at FA
  simp only at FA
  have FAH := Lib.hid FA
  have HW0 := Lib.hid hW0
  have HB := Lib.hid hb
  have O0H := Lib.hid O0
  have HL := Lib.hid hL
  clear hW0 hb hB O0 EL0 FA hL
  go_enter Tryz.func12, Tryz.ntmps12
  go_wp2_with fail
  rw [← HW0.out, ← HB.out]
  refine FAH.out.mono ?_; rintro e w1 ⟨rfl, o1⟩
  have O1 := Lib.hid (O0H.out.then0 o1)
  have PA := parse_any w1 (HL.out.keep0 O1.out) ⟨#[112, 97, 114, 107, 32, 49]⟩ (by decide)
  rw [show (⟨#[112, 97, 114, 107, 32, 49]⟩ : ByteArray).data.toList = [112, 97, 114, 107, 32, 49] from rfl, parse_awake] at PA
  have PAH := Lib.hid PA
  clear o1 PA
  go_wp2_with fail
  refine PAH.out.mono ?_; rintro e w2 ⟨o2, v, rfl, hv⟩
  have O2 := Lib.hid (O1.out.then0 o2)
  clear o2 hv
  go_wp2_with fail
  go_ret
  exact ⟨by rfl, O2.out⟩
end Go.Proofs.YtncnepmgmphanaaGreatDoor

namespace Go.Proofs.YtncnepmgmphanaaGreatDoor
open Go.RowKit
def bs (l : List UInt8) : ByteArray := ⟨l.toArray⟩
end Go.Proofs.YtncnepmgmphanaaGreatDoor

namespace Go.Proofs.YtncnepmgmphanaaGreatDoor
open Go.RowKit
end Go.Proofs.YtncnepmgmphanaaGreatDoor

namespace Go.Proofs.YtncnepmgmphanaaGreatDoor
open Go.RowKit
end Go.Proofs.YtncnepmgmphanaaGreatDoor

namespace Go.Proofs.YtncnepmgmphanaaGreatDoor
open Go.RowKit
theorem BytesAt.only {w w' : World} {ao : Option Addr} {n : Nat} (h : BytesAt w ao n) (o : Only [] w w') : BytesAt w' ao n := fun i hi => by
  obtain ⟨b, off, rfl, z, h1, h2⟩ := h i hi
  exact ⟨b, off, rfl, z, o.keepCell h1 (by simp), h2⟩
theorem histE_any (w : World) (ao sa : Option Addr) (nb cb ns cs : Nat) (hb : BytesAt w ao nb) (hs : BytesAt w sa ns) (hnb : nb ≤ 100000) (hns : ns ≤ 100000) :
    Calls Tryz.prog 8 #[.slice ao nb cb, .slice sa ns cs] w fun e w' => ∃ v l, e = .returned v ∧ EL w' v l ∧ l.length ≤ 200000 ∧ Only [] w w' := by
  refine (history_any w ao sa nb cb ns cs hb hs hnb hns).mono ?_
  rintro e w' ⟨v, N', rfl, hN, hw, hc, hE⟩
  obtain ⟨l, hl, hn⟩ := el_of_ty hw hc
  exact ⟨v, l, rfl, hl, by omega, only_eff hE⟩
end Go.Proofs.YtncnepmgmphanaaGreatDoor

namespace Go.Proofs.YtncnepmgmphanaaGreatDoor
open Go.RowKit
def StCells (w : World) (b off : Nat) (x : Int × Evt) : Prop := w.cell? ⟨b, off, none⟩ = some (.int .i64 x.1) ∧ w.cell? ⟨b, off + 1, none⟩ = some (.int .i64 x.2.kind) ∧ w.cell? ⟨b, off + 2, none⟩ = some (.int .i64 x.2.worker) ∧ w.cell? ⟨b, off + 3, none⟩ = some (.int .i64 x.2.task) ∧ w.cell? ⟨b, off + 4, none⟩ = some (.int .i64 x.2.other) ∧ w.cell? ⟨b, off + 5, none⟩ = some (.int .i64 x.2.level)
def STL (w : World) (v : Value) (l : List (Int × Evt)) : Prop :=
  ∃ ao cap, v = .slice ao l.length cap ∧ l.length ≤ cap ∧ (0 < l.length → ∃ b off, ao = some ⟨b, off, none⟩ ∧ ∀ i, i < l.length → StCells w b (off + i * 6) (l.getD i (0, Evt.zero)))
set_option maxRecDepth 100000 in
set_option maxHeartbeats 4000000 in
theorem refSame_any (w : World) (v1 v2 : Value) (l : List Evt) (h1 : EL w v1 l) (h2 : EL w v2 l) (hn : l.length ≤ 9223372036854775807) :
    Calls Tryz.prog 16 #[v1, v2] w fun e w' => e = .returned (.bool true) ∧ Only [] w w' := by
  obtain ⟨ao1, cap1, rfl, hc1, hh1⟩ := h1
  obtain ⟨ao2, cap2, rfl, hc2, hh2⟩ := h2
  obtain ⟨n, hnn⟩ : ∃ n, n = l.length := ⟨_, rfl⟩
  have HN := Lib.hid hnn
  have HC := Lib.hid (And.intro hh1 hh2)
  rw [← hnn] at hn hc1 hc2 ⊢
  clear hh1 hh2 hnn
  go_enter Tryz.func16, Tryz.ntmps16
  go_wp2_with fail
  go_loopw [5] (fun r wr => ∃ k : Nat, r = .int .i64 k ∧ k ≤ n ∧ Only [] w wr) (fun r _ => n - (intOf r).toNat)
  case atStart => exact ⟨0, rfl, by omega, Only.refl _ _⟩
  case round =>
    obtain ⟨k, rfl, hk, ho⟩ := hrel
    have OW := Lib.hid ho
    clear ho
    by_cases hkn : k < n
    · obtain ⟨b1, off1, rfl, hg1⟩ := HC.out.1 (by rw [← HN.out]; omega)
      obtain ⟨b2, off2, rfl, hg2⟩ := HC.out.2 (by rw [← HN.out]; omega)
      obtain ⟨c0, c1, c2, c3, c4⟩ := (hg1 k (by rw [← HN.out]; exact hkn)).keep OW.out
      obtain ⟨d0, d1, d2, d3, d4⟩ := (hg2 k (by rw [← HN.out]; exact hkn)).keep OW.out
      obtain ⟨x, hxx⟩ : ∃ x, x = l.getD k Evt.zero := ⟨_, rfl⟩
      rw [← hxx] at c0 c1 c2 c3 c4 d0 d1 d2 d3 d4
      obtain ⟨K, a, tk, ot, lv⟩ := x
      simp only at c0 c1 c2 c3 c4 d0 d1 d2 d3 d4
      have hk1 : (0 : Int) ≤ (k : Int) := by omega
      have hk2 : (k : Int) < (n : Int) := by omega
      clear hg1 hg2 hxx
      go_wp2_with fail
      go_region
      go_wp2_with fail
      go_roundw
      case rel => exact ⟨k + 1, by first | rfl | (congr 1; omega), by omega, OW.out.drew⟩
      case measure => simp [intOf]; omega
    · have hk2 : ¬ (k : Int) < (n : Int) := by omega
      go_wp2_with fail
      go_ret
      exact ⟨rfl, OW.out⟩
end Go.Proofs.YtncnepmgmphanaaGreatDoor

namespace Go.Proofs.YtncnepmgmphanaaGreatDoor
open Go.RowKit
def BsAt (w : World) (g off : Nat) (n : Nat) : Prop := ∀ i, i < n → ∃ b : UInt8, w.cell? ⟨g, off + i, none⟩ = some (.int .u8 b.toNat)
theorem BsAt.keep {w w' : World} {g off n : Nat} (h : BsAt w g off n) (o : Only [] w w') : BsAt w' g off n := fun i hi => by
  obtain ⟨b, hb⟩ := h i hi
  exact ⟨b, o.keepCell hb (by simp)⟩
def RB (w : World) (v : Value) (n : Nat) : Prop := ∃ g off cap, v = .slice (some ⟨g, off, none⟩) n cap ∧ n ≤ cap ∧ BsAt w g off n
theorem BsAt.list {w : World} {g off : Nat} : ∀ (n : Nat), BsAt w g off n → ∃ l : List UInt8, l.length = n ∧ ∀ j u, (l.map fun b => Value.int .u8 b.toNat)[j]? = some u → w.cell? ((⟨g, off, none⟩ : Addr).add j) = some u := by
  intro n
  induction n with
  | zero => intro _; exact ⟨[], rfl, fun j u hj => by simp at hj⟩
  | succ n ih =>
    intro h
    obtain ⟨l, hl, hc⟩ := ih fun i hi => h i (by omega)
    obtain ⟨b, hb⟩ := h n (by omega)
    refine ⟨l ++ [b], by simp [hl], fun j u hj => ?_⟩
    rw [List.map_append, List.getElem?_append] at hj
    split at hj
    · exact hc j u hj
    · rename_i hge
      rw [List.length_map, hl] at hge hj
      have hjn : j = n := by
        have := (List.getElem?_eq_some_iff.1 hj).1
        simp at this
        omega
      subst hjn
      simp at hj
      subst hj
      rw [Go.WideShapes.add_plain]
      exact hb
theorem infoU8 : (Tryz.prog.info? 5).map (fun i => (i.zero, i.size, i.bytes)) = some (some (.int .u8 0), 1, 1) := by kernel_rfl
theorem bytes_one (l : List UInt8) : ∀ u ∈ l.map (fun b => Value.int .u8 b.toNat), u.oneCell' = true := fun u hu => by
  obtain ⟨b, -, rfl⟩ := List.mem_map.1 hu
  rfl
theorem run_appB {ty : TypeId} {w : World} {g1 o1 k g2 o2 m c : Nat} (h1 : BsAt w g1 o1 k) (h2 : BsAt w g2 o2 m) (hk : k + m ≤ 100000000) :
    ∃ v' w', (Builtin.append_ #[23, 23] ty #[.slice (some ⟨g1, o1, none⟩) k k, .slice (some ⟨g2, o2, none⟩) m c]).run Tryz.prog w = .ok v' w' ∧ RB w' v' (k + m) ∧ Only [] w w' := by
  obtain ⟨i, hi, hz, hs, hb⟩ := info_parts infoU8
  obtain ⟨l1, e1, c1⟩ := h1.list
  obtain ⟨l2, e2, c2⟩ := h2.list
  by_cases hm : m = 0
  · subst hm
    refine ⟨.slice (some ⟨g1, o1, none⟩) k k, w, ?_, ⟨g1, o1, k, rfl, Nat.le_refl _, h1⟩, Only.refl _ _⟩
    simp [Builtin.append_, run_underlying Tryz.underlying23, sizeOf, typeInfo, hi, Builtin.lenOf, Builtin.firstCells, storeCells, loadCells, loadCellsFrom]
  · have hr := run_append_grow (P := Tryz.prog) w 23 ty 5 i _ Tryz.underlying23 hi hz ⟨g1, o1, none⟩ k k (l1.map fun b => Value.int .u8 b.toNat) (by rw [hs, List.length_map, e1, Nat.mul_one]) c1 ⟨g2, o2, none⟩ m c (l2.map fun b => Value.int .u8 b.toNat) (by rw [hs, List.length_map, e2, Nat.mul_one]) c2 (by omega) (by omega) (growslice_fits (by omega) (by rw [hb]; omega))
    have hgc := grownCap_ge w (k + m) k 5
    refine ⟨_, _, hr, ⟨_, 0, _, rfl, hgc, fun j hj => ?_⟩, (Only.refl _ _).drew.alloc _⟩
    have hbk := blk_alloc_new w.drew (.cells ((l1.map fun b => Value.int .u8 b.toNat).toArray ++ (l2.map fun b => Value.int .u8 b.toNat).toArray ++ Builtin.zeroCells (Value.int .u8 0).cells (grownCap w (k + m) k 5 - (k + m))) 5)
    obtain ⟨b, hb⟩ : ∃ b, (l1 ++ l2)[j]? = some b := ⟨_, List.getElem?_eq_getElem (by rw [List.length_append]; omega)⟩
    refine ⟨b, ?_⟩
    rw [Nat.zero_add]
    refine (cell_blk hbk j).trans ?_
    rw [Array.getElem?_append_left (by simp; omega), ← Array.getElem?_toList]
    simp only [Array.toList_append]
    rw [← List.map_append, List.getElem?_map, hb]
    rfl
theorem wp_appB {op : Oper} {a : Act} {K : Act → World → Prop} {Q : Exit → Act → World → Prop} {s x : Operand} {w : World} {g1 o1 k g2 o2 m c : Nat} (ho : op.op = .call { callee := .builtin .append, args := #[s, x], argTypes := #[23, 23] })
    (hs : a.eval s = .slice (some ⟨g1, o1, none⟩) k k) (hx : a.eval x = .slice (some ⟨g2, o2, none⟩) m c) (h1 : BsAt w g1 o1 k) (h2 : BsAt w g2 o2 m) (hk : k + m ≤ 100000000)
    (h : ∀ v' w', RB w' v' (k + m) → Only [] w w' → K (a.put op.dst v') w') : op.wp Tryz.prog a w K Q := by
  obtain ⟨v', w', hr, r1, r2⟩ := run_appB (ty := op.type) (c := c) h1 h2 hk
  unfold Oper.wp execOp
  simp only [ho, resolve, invoke, builtin, Sem.run_bind, Sem.run_pure, Result.andThen_ok, List.map_toArray, List.map_cons, List.map_nil, hs, hx, hr]
  exact h v' w' r1 r2
theorem wp_appS {op : Oper} {a : Act} {K : Act → World → Prop} {Q : Exit → Act → World → Prop} {sl x : Operand} {w : World} {base n : Nat} {v : Value} {xs : List Value} {s : ByteArray} (ho : op.op = .call { callee := .builtin .append, args := #[sl, x], argTypes := #[23, 9] })
    (hs : a.eval sl = v) (hx : a.eval x = .string s) (hown : w.ownsRow base 5 1 v n xs) (hn : n + s.size ≤ 100000000) (hbase : base ≤ w.heap.size)
    (h : ∀ v' w', w'.ownsRow base 5 1 v' (n + s.size) (xs ++ Lib.strCells s) → w.grownBy w' v.ownBlock → (v' = .slice none 0 0 → v = .slice none 0 0) → K (a.put op.dst v') w') : op.wp Tryz.prog a w K Q := by
  obtain ⟨i, hi, hz, hsz, hb⟩ := info_parts infoU8
  obtain ⟨v', w', hr, h2, h3, h4⟩ := Lib.run_append_own_string (P := Tryz.prog) w base 23 9 op.type 5 i Tryz.underlying23 Tryz.underlying9 hi hz hsz hb v n xs hown s (by unfold maxLen; omega) (by omega) hbase
  unfold Oper.wp execOp
  simp only [ho, resolve, invoke, builtin, Sem.run_bind, Sem.run_pure, Result.andThen_ok, List.map_toArray, List.map_cons, List.map_nil, hs, hx, hr]
  exact h v' w' h2 h3 (fun e => (h4.1 e).1)
theorem rb_conv {w : World} {v : Value} {n : Nat} (h : RB w v n) : ∃ s : ByteArray, s.size = n ∧ (convert 23 9 v).run Tryz.prog w = .ok (.string s) w := by
  obtain ⟨g, off, cap, rfl, hc, hb⟩ := h
  obtain ⟨l, e, hl⟩ := hb.list
  refine ⟨_, ?_, run_convert_bytes_arg (P := Tryz.prog) w 23 5 Tryz.underlying23 Tryz.underlying5 g off n cap (l.map fun b => (b.toNat : Int)) (by simp [e]) (fun i hi => ?_) 9 Tryz.underlying9⟩
  · rw [strOfNums_size]; simp [e]
  · have := hl i (.int .u8 ((l.map fun b => (b.toNat : Int)).getD i 0)) (by
      rw [List.getElem?_map, List.getElem?_eq_getElem (by omega)]
      simp [List.getD_eq_getElem?_getD, List.getElem?_eq_getElem (show i < l.length by omega)])
    rw [Go.WideShapes.add_plain] at this
    exact this
end Go.Proofs.YtncnepmgmphanaaGreatDoor
