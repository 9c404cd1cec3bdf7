/- An access to a cell by types. No condition. -/
import Derived.Test.YtncnepmgmphanaaGreatDoorMg05
import Derived.Deep.QuietTactic
import Derived.Deep.DeepCutAuto
import Derived.Deep.CutBlock
set_option linter.unusedVariables false
set_option linter.unusedSimpArgs false
set_option linter.unusedSectionVars false
namespace Go.Proofs.YtncnepmgmphanaaGreatDoor
open Go.RowKit
variable {sh : Sh} {B : Nat} {G : World → Prop}
theorem abz {w : World} {N : Nat} {cx : Cx} {v : Value} (hw : WT kd.sig B N w) (hx : bD kd cx w B N (.ptr 66 11 .env) v) {pe : Nat} (hpe : cx.pe = pe) : v = .pointer (some ⟨pe, 11, none⟩) ∧ ∃ c : Array Value, B ≤ pe ∧ w.heap[pe]? = some (.cells c 66 (0, 0)) ∧ 21 ≤ c.size ∧ aT w B N fQ c := by
 obtain ⟨b, r, rfl, -, ⟨c, h1, h2, h3⟩, h4, rfl⟩ := hx
 rw [hpe] at h4
 subst h4
 refine ⟨?_, c, h1, h2, ?_, ?_⟩
 · simp
 · have : kd.sz 66 = 21 := by kernel_rfl
   rw [this] at h3; omega
 · exact hw.rows (T := 66) (L := fQ) (by kernel_rfl) h1 h2
theorem aiS (w : World) (b : Nat) (ao : Option Addr) (n cap : Nat) (z : Int) (hc : w.cell? ⟨b, 11, none⟩ = some (.slice ao n cap)) (hz : 0 ≤ z ∧ z < n) : Calls Tryz.prog 170 #[.pointer (some ⟨b, 11, none⟩), .int .i64 z] w fun e w' => e = .returned (.bool true) ∧ w' = w := by
 obtain ⟨h1, h2⟩ := hz
 go_enter Tryz.func170, Tryz.ntmps170
 go_wp2_with fail
 go_ret
 exact ⟨rfl, rfl⟩
theorem ai2 (w : World) (b : Nat) (ao : Option Addr) (n cap : Nat) (z : Int) (hc : w.cell? ⟨b, 11, none⟩ = some (.slice ao n cap)) (hz : ¬ (0 ≤ z ∧ z < n)) : Calls Tryz.prog 170 #[.pointer (some ⟨b, 11, none⟩), .int .i64 z] w fun e w' => e = .returned (.bool false) ∧ w' = w := by
 by_cases h1 : 0 ≤ z
 · have h2 : (n : Int) ≤ z := by omega
   clear hz
   go_enter Tryz.func170, Tryz.ntmps170
   go_wp2_with fail
   go_ret
   exact ⟨vV (decide_eq_false (by omega)), rfl⟩
 · clear hz
   go_enter Tryz.func170, Tryz.ntmps170
   go_wp2_with fail
   go_ret
   exact ⟨rfl, rfl⟩
theorem LH (op : BinOp) (k : IntKind) (x y : Int) : bB k (bits op k x y) := by
 unfold bits
 exact gP _ _
set_option maxRecDepth 100000 in
set_option maxHeartbeats 2000000 in
theorem Y5 (w : World) (b g n cap zn : Nat) (kind v x old cnt l0 l1 l2 l3 : Int) (hne : b ≠ g) (hz : zn < n) (hx : bB .u64 x) (hv : bB .u64 v) (ho : bB .u64 old) (hb : ∃ c, w.heap[b]? = some (.cells c 66 (0, 0))) (hg : ∃ c, w.heap[g]? = some (.cells c 59 (0, 0)))
   (h11 : w.cell? ⟨b, 11, none⟩ = some (.slice (some ⟨g, 0, none⟩) n cap)) (hc : w.cell? ⟨g, zn, none⟩ = some (.int .u64 old)) (h12 : w.cell? ⟨b, 12, none⟩ = some (.int .i64 l0)) (Jr : w.cell? ⟨b, 13, none⟩ = some (.int .i64 l1)) (uW : w.cell? ⟨b, 14, none⟩ = some (.int .u64 l2)) (h15 : w.cell? ⟨b, 15, none⟩ = some (.int .u64 l3)) (h16 : w.cell? ⟨b, 16, none⟩ = some (.int .i64 cnt)) :
   Calls Tryz.prog 136 #[.pointer (some ⟨b, 11, none⟩), .int .i64 kind, .int .i64 zn, .int .u64 v, .int .u64 x] w fun e w' =>
     ∃ (now : Int) (ok : Bool) (cn : Int), bB .u64 now ∧ bB .i64 cn ∧ e = .returned (.tuple #[.int .u64 old, .bool ok]) ∧ w' = (((((w.setCell ⟨g, zn, none⟩ (.int .u64 now)).setCell ⟨b, 12, none⟩ (.int .i64 kind)).setCell ⟨b, 13, none⟩ (.int .i64 zn)).setCell ⟨b, 14, none⟩ (.int .u64 old)).setCell ⟨b, 15, none⟩ (.int .u64 now)).setCell ⟨b, 16, none⟩ (.int .i64 cn) := by
 obtain ⟨cb, hb⟩ := hb
 obtain ⟨cg, hg⟩ := hg
 have f12 := ay hb 12
 have f13 := ay hb 13
 have f14 := ay hb 14
 have f15 := ay hb 15
 have f16 := ay hb 16
 have fg := ay hg zn
 have IN := Lib.hid (aiS w b _ n cap zn h11 ⟨by omega, by omega⟩)
 have HX := Lib.hid hx
 have HV := Lib.hid hv
 have HO := Lib.hid ho
 obtain ⟨c1, hc1⟩ : ∃ z, z = IntKind.i64.wrap (cnt + 1) := ⟨_, rfl⟩
 have e1 : IntKind.i64.wrap (cnt + 1) = c1 := hc1.symm
 have HC1 : Hid (bB .i64 c1) := Lib.hid (by rw [hc1]; exact gP _ _)
 have hz0 : (0 : Int) ≤ (zn : Int) := by omega
 have hz1 : (zn : Int) < (n : Int) := by omega
 clear hb hg hx hv ho hc1
 go_enter Tryz.func136, Tryz.ntmps136
 go_wp2_with fail
 refine IN.out.mono ?_; rintro e w' ⟨rfl, rfl⟩
 go_upto_block 0 with fail
 go_cut [13, 14] (fun s13 s14 wx => wx = w' ∧ ∃ (now : Int) (ok : Bool), s13 = .int .u64 now ∧ bB .u64 now ∧ s14 = .bool ok)
 case first =>
   go_wp2_with fail
   all_goals go_meet
   all_goals refine ⟨rfl, _, _, rfl, ?_, rfl⟩
   · exact HV.out
   · exact HX.out
   · exact HO.out
   · exact LH _ _ _ _
   · exact LH _ _ _ _
   · exact gP _ _
   · exact HO.out
 case rest =>
   obtain ⟨rfl, now, ok, rfl, ahT, rfl⟩ := hcut
   have HN := Lib.hid ahT
   clear ahT
   go_wp2_with fail
   go_ret2
   exact ⟨now, ok, c1, HN.out, HC1.out, rfl, rfl⟩
theorem fA {w : World} {B N : Nat} {L : List CK} {c : Array Value} (h : aT w B N L c) {j : Nat} {k : IntKind} (hj : j < c.size) (hk : L[j % L.length]? = some (.int k)) : ∃ n, c[j]? = some (.int k n) ∧ bB k n := by
 obtain ⟨ck, e, o⟩ := h.2 j c[j] (Array.getElem?_eq_getElem hj)
 rw [hk] at e
 cases e
 obtain ⟨n, e, hn⟩ := o
 exact ⟨n, by rw [Array.getElem?_eq_getElem hj, e], hn⟩
theorem uZ {cx : Cx} {T b i N : Nat} {L : List CK} {c : Array Value} {ck : CK} {v : Value} {E : List EI} {w0 w : World} (hw : WT kd.sig B N w) (he : Eff (dC B kd cx E) w0 w) (hb : w.heap[b]? = some (.cells c T (0, 0))) (hT : kd.sig T = some L) (hck : L[i % L.length]? = some ck) (hv : aU w B N ck v) (hm : EI.ty T (i % L.length) ∈ E) (hBb : B ≤ b) :
   WT kd.sig B N (w.setCell ⟨b, i, none⟩ v) ∧ Eff (dC B kd cx E) w0 (w.setCell ⟨b, i, none⟩ v) ∧ (w.setCell ⟨b, i, none⟩ v).heap[b]? = some (.cells (c.setIfInBounds i v) T (0, 0)) :=
 ⟨hw.set hb hT hck hv, he.dK hb (.inl (.inr (.inr ⟨_, hm, by rw [Kd.qK hT], hBb⟩))), aR hb i v⟩
theorem E8 (w : World) (b : Nat) (ao : Option Addr) (n cap : Nat) (z kind v x : Int) (hc : w.cell? ⟨b, 11, none⟩ = some (.slice ao n cap)) (hz : ¬ (0 ≤ z ∧ z < n)) : Calls Tryz.prog 136 #[.pointer (some ⟨b, 11, none⟩), .int .i64 kind, .int .i64 z, .int .u64 v, .int .u64 x] w fun e w' => e = .returned (.tuple #[.int .u64 0, .bool false]) ∧ w' = w := by
 have IN := Lib.hid (ai2 w b _ n cap z hc hz)
 clear hc hz
 go_enter Tryz.func136, Tryz.ntmps136
 go_wp2_with fail
 refine IN.out.mono ?_; rintro e w' ⟨rfl, rfl⟩
 go_wp2_with fail
 go_ret2
 exact ⟨rfl, rfl⟩
theorem aaW (hev : aG sh G) (hS : Safe kd ae G) : TC Tryz.prog kd sh B G 136 zZ := by
 intro N w args ha hB hl hw hG hp Lm
 obtain ⟨m, k, z, v, x, rfl⟩ : ∃ m k z v x, args = #[m, k, z, v, x] := by
   obtain ⟨l⟩ := args
   match l, ha with
   | [a, b, c, d, e], _ => exact ⟨a, b, c, d, e, rfl⟩
 have hm := eu hp (i := 0) rfl rfl
 obtain ⟨kind, rfl, hk⟩ := eu hp (i := 1) rfl rfl
 obtain ⟨z, rfl, hz⟩ := eu hp (i := 2) rfl rfl
 obtain ⟨v, rfl, hv⟩ := eu hp (i := 3) rfl rfl
 obtain ⟨x, rfl, hx⟩ := eu hp (i := 4) rfl rfl
 obtain ⟨rfl, c, h1, h2, h3, h4⟩ := abz (pe := sh.pe) hw hm rfl
 have hblk := fun j => aa h2 j
 obtain ⟨ck, e, hsl⟩ := h4.2 11 c[11] (Array.getElem?_eq_getElem (by omega))
 cases e
 have h11 := hblk 11
 rw [Array.getElem?_eq_getElem (show 11 < c.size by omega)] at h11
 obtain ⟨n, xs, hn, hxl, hh⟩ := hsl
 by_cases hin : 0 ≤ z ∧ z < n
 · rcases hh with ⟨e1, rfl⟩ | ⟨g, cap, cur, e1, q1, q2, q3, q4, q5, q6⟩
   · omega
   · rw [e1] at h11
     obtain ⟨zn, rfl⟩ : ∃ n : Nat, z = n := ⟨z.toNat, by omega⟩
     have hzn : zn < cur.size := by rw [q5]; omega
     have hgr := hw.rows (T := 59) (L := [.int .u64]) (by kernel_rfl) q1 q2
     obtain ⟨old, ho1, ho2⟩ := fA (k := .u64) hgr hzn (by rw [show zn % List.length [CK.int .u64] = 0 from Nat.mod_one _]; rfl)
     have hne : sh.pe ≠ g := fun e => by
       rw [← e, h2] at q2
       injection q2 with q2
       injection q2 with _ q2 _
       exact absurd q2 (by decide)
     obtain ⟨l0, d0, -⟩ := fA (j := 12) h4 (by omega) rfl
     obtain ⟨l1, d1, -⟩ := fA (j := 13) h4 (by omega) rfl
     obtain ⟨l2, d2, -⟩ := fA (j := 14) h4 (by omega) rfl
     obtain ⟨l3, d3, -⟩ := fA (j := 15) h4 (by omega) rfl
     obtain ⟨cnt, d4, -⟩ := fA (j := 16) h4 (by omega) rfl
     refine (Y5 w sh.pe g n cap zn kind v x old cnt l0 l1 l2 l3 hne (by omega) hx hv ho2 ⟨_, h2⟩ ⟨_, q2⟩ h11 ((aa q2 zn).trans ho1) ((hblk 12).trans d0) ((hblk 13).trans d1) ((hblk 14).trans d2) ((hblk 15).trans d3) ((hblk 16).trans d4)).mono ?_
     rintro e w' ⟨now, ok, cn, k1, k2, rfl, rfl⟩
     have Y6 : kd.sig 66 = some fQ := by kernel_rfl
     have hU : kd.sig 59 = some [.int .u64] := by kernel_rfl
     have hb1 : (w.setCell ⟨g, zn, none⟩ (.int .u64 now)).heap[sh.pe]? = some (.cells c 66 (0, 0)) := by rw [bM hne]; exact h2
     obtain ⟨w1, e1, -⟩ := uZ (cx := bQ kd sh zZ #[.pointer (some ⟨sh.pe, 11, none⟩), .int .i64 kind, .int .i64 zn, .int .u64 v, .int .u64 x] w) (E := aY) hw (Eff.refl _ _) q2 hU (i := zn) (ck := .int .u64) (v := .int .u64 now) (by rw [show zn % List.length [CK.int .u64] = 0 from Nat.mod_one _]; rfl) ⟨_, rfl, k1⟩ (by rw [show zn % List.length [CK.int .u64] = 0 from Nat.mod_one _]; decide +kernel) q1
     obtain ⟨w2, e2, b2⟩ := uZ w1 e1 hb1 Y6 (i := 12) (ck := .int .i64) (v := .int .i64 kind) rfl ⟨_, rfl, hk⟩ (by decide +kernel) h1
     obtain ⟨w3, e3, b3⟩ := uZ w2 e2 b2 Y6 (i := 13) (ck := .int .i64) (v := .int .i64 zn) rfl ⟨_, rfl, hz⟩ (by decide +kernel) h1
     obtain ⟨w4, e4, b4⟩ := uZ w3 e3 b3 Y6 (i := 14) (ck := .int .u64) (v := .int .u64 old) rfl ⟨_, rfl, ho2⟩ (by decide +kernel) h1
     obtain ⟨w5, e5, b5⟩ := uZ w4 e4 b4 Y6 (i := 15) (ck := .int .u64) (v := .int .u64 now) rfl ⟨_, rfl, k1⟩ (by decide +kernel) h1
     obtain ⟨w6, e6, b6⟩ := uZ w5 e5 b5 Y6 (i := 16) (ck := .int .i64) (v := .int .i64 cn) rfl ⟨_, rfl, k2⟩ (by decide +kernel) h1
     exact ⟨_, rfl, w6, e6, ⟨_, rfl, ⟨_, rfl, ho2⟩, ⟨_, rfl⟩, trivial⟩, gJ⟩
 · have hsl2 : ∃ ao cap, c[11] = .slice ao n cap := by
     rcases hh with ⟨e1, rfl⟩ | ⟨g, cap, cur, e1, _⟩
     · exact ⟨none, 0, e1⟩
     · exact ⟨_, cap, e1⟩
   obtain ⟨ao, cap, e1⟩ := hsl2
   rw [e1] at h11
   refine (E8 w sh.pe ao n cap z kind v x h11 hin).mono ?_
   rintro e w' ⟨rfl, rfl⟩
   exact ⟨_, rfl, hw, Eff.refl _ _, ⟨_, rfl, ⟨_, rfl, u64_in (by omega)⟩, ⟨_, rfl⟩, trivial⟩, gJ⟩
end Go.Proofs.YtncnepmgmphanaaGreatDoor
