/- Contracts by types of the reference engine, with their ways out, part B (printed by gen_tc3.py). No condition beside those named. -/
import Derived.Test.YtncnepmgmphanaaGreatDoorTcRun
import Derived.Test.YtncnepmgmphanaaGreatDoorTcRunK
import Derived.Test.YtncnepmgmphanaaGreatDoorMg07
import Derived.Test.YtncnepmgmphanaaGreatDoorTcR
import Derived.Test.YtncnepmgmphanaaGreatDoorTcFns
set_option linter.unusedVariables false
set_option linter.unusedSimpArgs false
set_option linter.unusedSectionVars false
namespace Go.Proofs.YtncnepmgmphanaaGreatDoor
section
variable {sh : Sh} {B : Nat} {G : World → Prop}
theorem abB : aP Tryz.prog kd aQ (ah bV) (aM []) false ae Tryz.f116 DV bA = true := by kernel_rfl
theorem aae (hev : aG sh G) (hS : Safe kd ae G) (ag : TC Tryz.prog kd sh B G 146 aD) (ai : TC Tryz.prog kd sh B G 108 aF) (htop : TC Tryz.prog kd sh B G 156 bU) : aV Tryz.prog kd sh B G 116 DV bA := aB Tryz.func116 abB (bR hev hS ag ai htop) aJ hev hS mixed
theorem Zb : aP Tryz.prog kd aQ (ah bV) (aM []) false ae Tryz.f116 Ca bA = true := by kernel_rfl
theorem ZW (hev : aG sh G) (hS : Safe kd ae G) (ag : TC Tryz.prog kd sh B G 146 aD) (ai : TC Tryz.prog kd sh B G 108 aF) (htop : TC Tryz.prog kd sh B G 156 bU) : aV Tryz.prog kd sh B G 116 Ca bA := aB Tryz.func116 Zb (bR hev hS ag ai htop) aJ hev hS mixed
theorem abP : aP Tryz.prog kd aQ (ah bV) (aM []) false ae Tryz.f116 DL bA = true := by kernel_rfl
theorem Zj (hev : aG sh G) (hS : Safe kd ae G) (ag : TC Tryz.prog kd sh B G 146 aD) (ai : TC Tryz.prog kd sh B G 108 aF) (htop : TC Tryz.prog kd sh B G 156 bU) : aV Tryz.prog kd sh B G 116 DL bA := aB Tryz.func116 abP (bR hev hS ag ai htop) aJ hev hS mixed
theorem Xh : aP Tryz.prog kd aQ (ah bV) (aM []) false ae Tryz.f116 yo bA = true := by kernel_rfl
theorem U0 (hev : aG sh G) (hS : Safe kd ae G) (ag : TC Tryz.prog kd sh B G 146 aD) (ai : TC Tryz.prog kd sh B G 108 aF) (htop : TC Tryz.prog kd sh B G 156 bU) : aV Tryz.prog kd sh B G 116 yo bA := aB Tryz.func116 Xh (bR hev hS ag ai htop) aJ hev hS mixed
theorem Zz : aP Tryz.prog kd aQ (ah bV) (aM []) false ae Tryz.f116 En bA = true := by kernel_rfl
theorem Z4 (hev : aG sh G) (hS : Safe kd ae G) (ag : TC Tryz.prog kd sh B G 146 aD) (ai : TC Tryz.prog kd sh B G 108 aF) (htop : TC Tryz.prog kd sh B G 156 bU) : aV Tryz.prog kd sh B G 116 En bA := aB Tryz.func116 Zz (bR hev hS ag ai htop) aJ hev hS mixed
theorem Xn : aP Tryz.prog kd aQ (ah bV) (aM [(160, bH, [(bH.res, bH.post)])]) false ae Tryz.f116 xE dh = true := by kernel_rfl
theorem Ve (hev : aG sh G) (hS : Safe kd ae G) (ag : TC Tryz.prog kd sh B G 146 aD) (ai : TC Tryz.prog kd sh B G 108 aF) (htop : TC Tryz.prog kd sh B G 156 bU) (dV : aV Tryz.prog kd sh B G 160 bH [(bH.res, bH.post)]) : aV Tryz.prog kd sh B G 116 xE dh := aB Tryz.func116 Xn (bR hev hS ag ai htop) (aL iK dV aJ) hev hS mixed
theorem Xf : aP Tryz.prog kd aQ (ah bV) (aM [(160, bH, [(bH.res, bH.post)])]) false ae Tryz.f116 yX dh = true := by kernel_rfl
theorem XC (hev : aG sh G) (hS : Safe kd ae G) (ag : TC Tryz.prog kd sh B G 146 aD) (ai : TC Tryz.prog kd sh B G 108 aF) (htop : TC Tryz.prog kd sh B G 156 bU) (dV : aV Tryz.prog kd sh B G 160 bH [(bH.res, bH.post)]) : aV Tryz.prog kd sh B G 116 yX dh := aB Tryz.func116 Xf (bR hev hS ag ai htop) (aL iK dV aJ) hev hS mixed
theorem Vn : aP Tryz.prog kd aQ (ah bV) (aM [(160, bH, [(bH.res, bH.post)])]) false ae Tryz.f116 xC dh = true := by kernel_rfl
theorem Vk (hev : aG sh G) (hS : Safe kd ae G) (ag : TC Tryz.prog kd sh B G 146 aD) (ai : TC Tryz.prog kd sh B G 108 aF) (htop : TC Tryz.prog kd sh B G 156 bU) (dV : aV Tryz.prog kd sh B G 160 bH [(bH.res, bH.post)]) : aV Tryz.prog kd sh B G 116 xC dh := aB Tryz.func116 Vn (bR hev hS ag ai htop) (aL iK dV aJ) hev hS mixed
theorem Vu : aP Tryz.prog kd aQ (ah bV) (aM [(160, bE, [(bE.res, bE.post)])]) false ae Tryz.f116 y5 bA = true := by kernel_rfl
theorem Wj (hev : aG sh G) (hS : Safe kd ae G) (ag : TC Tryz.prog kd sh B G 146 aD) (ai : TC Tryz.prog kd sh B G 108 aF) (htop : TC Tryz.prog kd sh B G 156 bU) (dY : aV Tryz.prog kd sh B G 160 bE [(bE.res, bE.post)]) : aV Tryz.prog kd sh B G 116 y5 bA := aB Tryz.func116 Vu (bR hev hS ag ai htop) (aL iK dY aJ) hev hS mixed
theorem Ws : aP Tryz.prog kd aQ (ah bV) (aM [(160, bE, [(bE.res, bE.post)])]) false ae Tryz.f116 yt bA = true := by kernel_rfl
theorem Vz (hev : aG sh G) (hS : Safe kd ae G) (ag : TC Tryz.prog kd sh B G 146 aD) (ai : TC Tryz.prog kd sh B G 108 aF) (htop : TC Tryz.prog kd sh B G 156 bU) (dY : aV Tryz.prog kd sh B G 160 bE [(bE.res, bE.post)]) : aV Tryz.prog kd sh B G 116 yt bA := aB Tryz.func116 Ws (bR hev hS ag ai htop) (aL iK dY aJ) hev hS mixed
theorem Wl : aP Tryz.prog kd aQ (ah bV) (aM [(160, bE, [(bE.res, bE.post)])]) false ae Tryz.f116 yJ bA = true := by kernel_rfl
theorem Vs (hev : aG sh G) (hS : Safe kd ae G) (ag : TC Tryz.prog kd sh B G 146 aD) (ai : TC Tryz.prog kd sh B G 108 aF) (htop : TC Tryz.prog kd sh B G 156 bU) (dY : aV Tryz.prog kd sh B G 160 bE [(bE.res, bE.post)]) : aV Tryz.prog kd sh B G 116 yJ bA := aB Tryz.func116 Wl (bR hev hS ag ai htop) (aL iK dY aJ) hev hS mixed
theorem Rb : aP Tryz.prog kd aQ (ah bV) (aM [(116, DV, bA)]) false ae Tryz.f68 EU bA = true := by kernel_rfl
theorem Q0 (hev : aG sh G) (hS : Safe kd ae G) (ag : TC Tryz.prog kd sh B G 146 aD) (ai : TC Tryz.prog kd sh B G 108 aF) (htop : TC Tryz.prog kd sh B G 156 bU) : aV Tryz.prog kd sh B G 68 EU bA := aB Tryz.func68 Rb (bR hev hS ag ai htop) (aL eH (aae hev hS ag ai htop) aJ) hev hS mixed
theorem Rh : aP Tryz.prog kd aQ (ah bV) (aM [(116, Ca, bA)]) false ae Tryz.f68 FE bA = true := by kernel_rfl
theorem Rn (hev : aG sh G) (hS : Safe kd ae G) (ag : TC Tryz.prog kd sh B G 146 aD) (ai : TC Tryz.prog kd sh B G 108 aF) (htop : TC Tryz.prog kd sh B G 156 bU) : aV Tryz.prog kd sh B G 68 FE bA := aB Tryz.func68 Rh (bR hev hS ag ai htop) (aL eH (ZW hev hS ag ai htop) aJ) hev hS mixed
theorem Sz : aP Tryz.prog kd aQ (ah bV) (aM [(116, DL, bA)]) false ae Tryz.f68 Eu bA = true := by kernel_rfl
theorem Ru (hev : aG sh G) (hS : Safe kd ae G) (ag : TC Tryz.prog kd sh B G 146 aD) (ai : TC Tryz.prog kd sh B G 108 aF) (htop : TC Tryz.prog kd sh B G 156 bU) : aV Tryz.prog kd sh B G 68 Eu bA := aB Tryz.func68 Sz (bR hev hS ag ai htop) (aL eH (Zj hev hS ag ai htop) aJ) hev hS mixed
theorem OB : aP Tryz.prog kd aQ (ah bV) (aM [(116, yo, bA)]) false ae Tryz.f68 Bw bA = true := by kernel_rfl
theorem ME (hev : aG sh G) (hS : Safe kd ae G) (ag : TC Tryz.prog kd sh B G 146 aD) (ai : TC Tryz.prog kd sh B G 108 aF) (htop : TC Tryz.prog kd sh B G 156 bU) : aV Tryz.prog kd sh B G 68 Bw bA := aB Tryz.func68 OB (bR hev hS ag ai htop) (aL eH (U0 hev hS ag ai htop) aJ) hev hS mixed
theorem Rk : aP Tryz.prog kd aQ (ah bV) (aM [(116, En, bA)]) false ae Tryz.f68 FP bA = true := by kernel_rfl
theorem QS (hev : aG sh G) (hS : Safe kd ae G) (ag : TC Tryz.prog kd sh B G 146 aD) (ai : TC Tryz.prog kd sh B G 108 aF) (htop : TC Tryz.prog kd sh B G 156 bU) : aV Tryz.prog kd sh B G 68 FP bA := aB Tryz.func68 Rk (bR hev hS ag ai htop) (aL eH (Z4 hev hS ag ai htop) aJ) hev hS mixed
theorem Ng : aP Tryz.prog kd aQ (ah bV) (aM [(116, xE, dh)]) false ae Tryz.f68 BJ dh = true := by kernel_rfl
theorem Qv (hev : aG sh G) (hS : Safe kd ae G) (ag : TC Tryz.prog kd sh B G 146 aD) (ai : TC Tryz.prog kd sh B G 108 aF) (htop : TC Tryz.prog kd sh B G 156 bU) (dV : aV Tryz.prog kd sh B G 160 bH [(bH.res, bH.post)]) : aV Tryz.prog kd sh B G 68 BJ dh := aB Tryz.func68 Ng (bR hev hS ag ai htop) (aL eH (Ve hev hS ag ai htop dV) aJ) hev hS mixed
theorem PV : aP Tryz.prog kd aQ (ah bV) (aM [(116, yX, dh)]) false ae Tryz.f68 BI dh = true := by kernel_rfl
theorem N7 (hev : aG sh G) (hS : Safe kd ae G) (ag : TC Tryz.prog kd sh B G 146 aD) (ai : TC Tryz.prog kd sh B G 108 aF) (htop : TC Tryz.prog kd sh B G 156 bU) (dV : aV Tryz.prog kd sh B G 160 bH [(bH.res, bH.post)]) : aV Tryz.prog kd sh B G 68 BI dh := aB Tryz.func68 PV (bR hev hS ag ai htop) (aL eH (XC hev hS ag ai htop dV) aJ) hev hS mixed
theorem Qx : aP Tryz.prog kd aQ (ah bV) (aM [(116, xC, dh)]) false ae Tryz.f68 Bu dh = true := by kernel_rfl
theorem PH (hev : aG sh G) (hS : Safe kd ae G) (ag : TC Tryz.prog kd sh B G 146 aD) (ai : TC Tryz.prog kd sh B G 108 aF) (htop : TC Tryz.prog kd sh B G 156 bU) (dV : aV Tryz.prog kd sh B G 160 bH [(bH.res, bH.post)]) : aV Tryz.prog kd sh B G 68 Bu dh := aB Tryz.func68 Qx (bR hev hS ag ai htop) (aL eH (Vk hev hS ag ai htop dV) aJ) hev hS mixed
theorem LW : aP Tryz.prog kd aQ (ah bV) (aM [(116, y5, bA)]) false ae Tryz.f68 BA bA = true := by kernel_rfl
theorem Ps (hev : aG sh G) (hS : Safe kd ae G) (ag : TC Tryz.prog kd sh B G 146 aD) (ai : TC Tryz.prog kd sh B G 108 aF) (htop : TC Tryz.prog kd sh B G 156 bU) (dY : aV Tryz.prog kd sh B G 160 bE [(bE.res, bE.post)]) : aV Tryz.prog kd sh B G 68 BA bA := aB Tryz.func68 LW (bR hev hS ag ai htop) (aL eH (Wj hev hS ag ai htop dY) aJ) hev hS mixed
theorem Qq : aP Tryz.prog kd aQ (ah bV) (aM [(116, yt, bA)]) false ae Tryz.f68 A7 bA = true := by kernel_rfl
theorem QH (hev : aG sh G) (hS : Safe kd ae G) (ag : TC Tryz.prog kd sh B G 146 aD) (ai : TC Tryz.prog kd sh B G 108 aF) (htop : TC Tryz.prog kd sh B G 156 bU) (dY : aV Tryz.prog kd sh B G 160 bE [(bE.res, bE.post)]) : aV Tryz.prog kd sh B G 68 A7 bA := aB Tryz.func68 Qq (bR hev hS ag ai htop) (aL eH (Vz hev hS ag ai htop dY) aJ) hev hS mixed
theorem NP : aP Tryz.prog kd aQ (ah bV) (aM [(116, yJ, bA)]) false ae Tryz.f68 BD bA = true := by kernel_rfl
theorem QB (hev : aG sh G) (hS : Safe kd ae G) (ag : TC Tryz.prog kd sh B G 146 aD) (ai : TC Tryz.prog kd sh B G 108 aF) (htop : TC Tryz.prog kd sh B G 156 bU) (dY : aV Tryz.prog kd sh B G 160 bE [(bE.res, bE.post)]) : aV Tryz.prog kd sh B G 68 BD bA := aB Tryz.func68 NP (bR hev hS ag ai htop) (aL eH (Vs hev hS ag ai htop dY) aJ) hev hS mixed
theorem Xk : aP Tryz.prog kd aQ (ah TE) (aM []) false ae Tryz.f116 yD [zC] = true := by kernel_rfl
theorem Wm (hev : aG sh G) (hS : Safe kd ae G) (ag : TC Tryz.prog kd sh B G 146 aD) (ai : TC Tryz.prog kd sh B G 108 aF) (Lv : TC Tryz.prog kd sh B G 156 vD) : aV Tryz.prog kd sh B G 116 yD [zC] := aB Tryz.func116 Xk (bn su Lv (aX hev hS ag ai)) aJ hev hS mixed
theorem MC : aP Tryz.prog kd aQ (ah TE) (aM [(116, yD, [zC])]) false ae Tryz.f68 uB [zC] = true := by kernel_rfl
theorem Oi (hev : aG sh G) (hS : Safe kd ae G) (ag : TC Tryz.prog kd sh B G 146 aD) (ai : TC Tryz.prog kd sh B G 108 aF) (Lv : TC Tryz.prog kd sh B G 156 vD) : aV Tryz.prog kd sh B G 68 uB [zC] := aB Tryz.func68 MC (bn su Lv (aX hev hS ag ai)) (aL eH (Wm hev hS ag ai Lv) aJ) hev hS mixed
end
section
open Go.RowKit
variable {sh : Sh} {B : Nat} {G : World → Prop}
theorem dR : kd.sz 118 = 18 := by kernel_rfl
theorem aic {N : Nat} {w : World} {E s b n m cap : Nat} (h : aU w B N (.sl E s) (.slice (some ⟨b, 0, none⟩) n cap)) (hm : m ≤ n) : aU w B N (.sl E s) (.slice (some ⟨b, 0, none⟩) m cap) := by
 obtain ⟨n', xs, hn, hl, ⟨h, -⟩ | ⟨b', cap', cur, h, h1, h2, h3, h4, h5, h6⟩⟩ := h
 · cases h
 · cases h
   refine ⟨m, cur.toList.take (m * s), by omega, ?_, .inr ⟨b, cap, cur, rfl, h1, h2, by omega, h4, h5, rfl⟩⟩
   have := Nat.mul_le_mul_right s (show m ≤ cap by omega)
   rw [List.length_take, Array.length_toList]
   omega
structure ShV (sh : Sh) (lb n cap : Nat) : Prop where
 v0 : sh.vals 0 = .slice (some ⟨lb, 0, none⟩) (n + 1) cap
 v1 : sh.vals 1 = .slice (some ⟨lb, 0, none⟩) n cap
theorem Kq {lb n cap N : Nat} {w : World} {args : Array Value} {s : aj} (hV : ShV sh lb n cap) (hN : N ≤ 68719476736) (hps : s.ps = [.ptr 118 0 (.par 0)]) (hpr : s.pre = [((0, 118, 17), .val 0)]) (ha : args.size = s.ps.length) (hw : WT kd.sig B N w) (hp : ∀ (i : Nat) (t : AT), s.ps[i]? = some t → ∃ v, args[i]? = some v ∧ bD kd (bQ kd sh s args w) w B N t v) (hpre : dL kd (bQ kd sh s args w) w B N s.pre) :
   ∃ fb r f, args = #[.pointer (some ⟨fb, r * 18, none⟩)] ∧ (bQ kd sh s args w).ps 0 = (fb, r) ∧ fb < w.heap.size ∧ w.heap[fb]? = some (.cells f 118 (0, 0)) ∧ B ≤ fb ∧ (r + 1) * 18 ≤ f.size ∧ w.cell? ⟨fb, r * 18 + 17, none⟩ = some (.slice (some ⟨lb, 0, none⟩) (n + 1) cap) ∧ (∃ ln, w.cell? ⟨fb, r * 18 + 1, none⟩ = some (.int .i64 ln)) ∧ n + 1 ≤ cap ∧ n ≤ 68719476736 ∧ aU w B N (.sl 3 1) (.slice (some ⟨lb, 0, none⟩) n cap) := by
 rw [hps] at ha
 obtain ⟨a, rfl⟩ := vK ha
 obtain ⟨fb, r, rfl, -, ⟨f, hf1, hf2, hf3⟩, xN, dO⟩ := eu hp (i := 0) (by rw [hps]; rfl) rfl
 rw [hpr] at hpre
 obtain ⟨-, -, -, v, h4, h5⟩ := hpre 0 118 17 (.val 0) rfl
 rw [xN] at h4
 have h5' : v = sh.vals 0 := h5
 rw [dR] at hf3 h4
 rw [h5', hV.v0] at h4
 have kF : kd.sig 118 = some ax := by kernel_rfl
 obtain ⟨v17, q17, mZ⟩ := bZ hw kF hf1 hf2 (i := r * 18 + 17) (j := 17) (by omega) (by show (r * 18 + 17) % 18 = 17; omega) rfl
 obtain ⟨_, q1, ln, rfl, -⟩ := bZ hw kF hf1 hf2 (i := r * 18 + 1) (j := 1) (by omega) (by show (r * 18 + 1) % 18 = 1; omega) rfl
 rw [show w.cell? ⟨fb, r * 18 + 17, none⟩ = some (.slice (some ⟨lb, 0, none⟩) (n + 1) cap) from h4] at q17
 cases q17
 have hcn : n + 1 ≤ cap ∧ n ≤ N := by
   rcases df mZ with h | ⟨b, n', c, cur, h, -, -, h3, -, h2⟩
   · cases h
   · cases h; exact ⟨h3, by omega⟩
 exact ⟨fb, r, f, by rw [dR]; rfl, xN, dO, hf2, hf1, hf3, h4, ⟨ln, q1⟩, hcn.1, by omega, aic mZ (by omega)⟩
theorem Ke {N : Nat} {w w' : World} {fb r : Nat} {S : Value} {s : aj} {args : Array Value} (h : lY B N w w' fb (r * 18) S) (hps : (bQ kd sh s args w).ps 0 = (fb, r)) (hE : s.aS = [.par 0 118 1, .par 0 118 17]) {f : Array Value} (hF : w.heap[fb]? = some (.cells f 118 (0, 0))) (Bh : B ≤ fb) : Eff (dC B kd (bQ kd sh s args w) s.aS) w w' := by
 refine h.aS.iI fun k c T f' j hk hc => ?_
 obtain ⟨rfl, hj⟩ := hc
 rw [hF] at hk
 cases hk
 rw [hE]
 rcases hj with rfl | rfl
 · exact .inr (.inl ⟨0, 1, by simp, by rw [hps], by rw [hps, dR], Bh⟩)
 · exact .inr (.inl ⟨0, 17, by simp, by rw [hps], by rw [hps, dR], Bh⟩)
theorem qa {lb n cap : Nat} (hV : ShV sh lb n cap) (hn : 0 < n) : aV Tryz.prog kd sh B G 160 bE [(bE.res, bE.post)] := by
 intro N w args ha hB hl hw hG hp hpre
 have fM : N ≤ 68719476736 := by simpa [bE] using hl
 obtain ⟨fb, r, f, rfl, hps, dO, hF, Bh, hsz, yc, ⟨ln, h1⟩, hcap, hn2, hS⟩ := Kq hV fM rfl rfl ha hw hp hpre
 refine (VB (B := B) N w fb r lb n cap ln f hw hB hn2 hcap hF hsz hS yc h1 hn).mono ?_
 rintro e w' ⟨rfl, K⟩
 refine ⟨_, rfl, K.wt, Ke K hps rfl hF Bh, _, List.mem_singleton.2 rfl, ⟨_, rfl, ⟨⟨_, rfl⟩, ⟨0, rfl, i64_in (by omega)⟩, ⟨0, rfl, i64_in (by omega)⟩, trivial⟩, 0, by simp, .inr rfl⟩, fun i T o t ht => ?_⟩
 have hm := Hm.at_mem ht
 have hrow : eO kd w' B 118 fb r := eO.mono ⟨f, Bh, hF, by rw [dR]; exact hsz⟩ K.aS
 simp only [bE, List.mem_cons, List.not_mem_nil, or_false, Prod.mk.injEq] at hm
 rcases hm with ⟨⟨rfl, rfl, rfl⟩, rfl⟩ | ⟨⟨rfl, rfl, rfl⟩, rfl⟩
 · exact ⟨by rw [hps]; exact dO, by rw [dR]; omega, by rw [hps]; exact hrow, _, by rw [hps, dR]; exact K.l, hV.v1.symm⟩
 · exact ⟨by rw [hps]; exact dO, by rw [dR]; omega, by rw [hps]; exact hrow, _, by rw [hps, dR]; exact K.ln, rfl, i64_in (by omega)⟩
theorem oV {lb n cap : Nat} (hev : aG sh G) (hS : Safe kd ae G) (hV : ShV sh lb n cap) (hn : n = 0) : aV Tryz.prog kd sh B G 160 bH [(bH.res, bH.post)] := by
 intro N w args ha hB hl hw hG hp hpre
 have fM : N ≤ 68719476736 := by simpa [bH] using hl
 obtain ⟨fb, r, f, rfl, hps, dO, hF, Bh, hsz, yc, ⟨ln, h1⟩, hcap, hn2, hSl⟩ := Kq hV fM rfl rfl ha hw hp hpre
 refine (Xy (B := B) hev hS N w fb r lb n cap ln f hG fM hw hB hn2 hn hcap hF hsz hSl yc h1).mono ?_
 rintro e w' ⟨k, v, rfl, hk, hv, K⟩
 exact ⟨_, rfl, K.wt, Ke K hps rfl hF Bh, _, List.mem_singleton.2 rfl, ⟨_, rfl, ⟨⟨_, rfl⟩, ⟨k, rfl, hk⟩, ⟨v, rfl, hv⟩, trivial⟩, 1, by simp, .inr rfl⟩, fun i T o t ht => by cases ht⟩
end
section
variable {sh : Sh} {B : Nat} {G : World → Prop}
theorem akN (hev : aG sh G) (y : Option Int) : aG (pR sh y) G := by cases y <;> exact hev
theorem Yi : aP Tryz.prog kd aQ (ah aC) (fun _ => none) true ae Tryz.f108 aF [(aF.res, aF.post)] = true := by kernel_rfl
theorem adi (hev : aG sh G) (hS : Safe kd ae G) (hW : ∃ W, sh.el 0 = .int .i64 W ∧ bB .i64 W) : TC Tryz.prog kd sh B G 108 aF :=
 aaw (Km Tryz.func108 Yi (fun y _ => aA (akN hev y) hS) (fun _ _ _ _ h => by cases h) hev (fun _ => hW) hS mixed)
end
section
open Go.RowKit
structure cK where
 sb : Nat
abbrev uO [Inhabited cK] : Nat := (default : cK).sb
variable [Inhabited cK] {sh : Sh} {B N T : Nat} {w w' : World}
abbrev bT : Nat := 118
abbrev ui (k : Nat) (U : TypeId) (j : Nat) : Prop := (U, j % kd.sz U) ∉ ae
def GW (w : World) : World → Prop := fun w' => Eff ui w w'
theorem eP (w : World) : Safe kd ae (GW w) := fun _ _ h g => h.trans g
theorem uf {b i : Nat} {c : Array Value} {U : TypeId} {f : Nat × Nat} (g : Eff ui w w') (hb : w.heap[b]? = some (.cells c U f)) (hp : (U, i % kd.sz U) ∈ ae) : w'.cell? ⟨b, i, none⟩ = w.cell? ⟨b, i, none⟩ := by
 obtain ⟨c', h1, h2, h3⟩ := g.cells _ _ _ _ hb
 rw [aa h1, aa hb, h3 i (fun hx => hx hp)]
structure EE (sh : Sh) (B N T : Nat) (w : World) : Prop where
 el : ∀ q, q ∈ aQ.2 → w.cell? ⟨sh.pe, q, none⟩ = some (sh.el q)
 blk : eO kd w B 66 sh.pe 0
 tasks : w.cell? ⟨sh.pe, 3, none⟩ = some (.int .i64 T)
 recs : bO (sh.el 19) = T
 small : T ≤ 68719476736
 workers : ∃ W, sh.el 0 = .int .i64 W ∧ bB .i64 W ∧ 0 < W
 o9 : aU w B N (.sl 123 1) (sh.el 9)
 pI : aU w B N (.sl 127 3) (sh.el 10)
 yB : aU w B N (.sl 59 1) (sh.el 11)
 mY : aU w B N (.sl 137 7) (sh.el 19)
 Fz : qX w (sh.el 9)
 Tg : uO < w.heap.size
theorem uT : kd.sz 66 = 21 := by kernel_rfl
theorem qX.mono {vp : Value} (h : qX w vp) (hw : WT kd.sig B N w) (ho : aU w B N (.sl 123 1) vp) (g : Eff ui w w') : qX w' vp := by
 intro pb n cap hvp i hi qb m mc hc j hj
 subst hvp
 rcases df ho with h | ⟨b, n', c, cur, h, h1, h2, h3, h4, h5⟩
 · cases h
 cases h
 rw [uf g h2 (by rw [show kd.sz 123 = 1 by kernel_rfl, Nat.mod_one]; decide)] at hc
 obtain ⟨a, e1, e2⟩ := h pb n cap rfl i hi qb m mc hc j hj
 obtain ⟨v, ev, ov⟩ := bZ hw (T := 123) (L := [.sl 125 3]) (by kernel_rfl) h1 h2 (i := i) (j := 0) (by omega) (by show i % 1 = 0; omega) rfl
 rw [hc] at ev
 cases ev
 rcases df ov with h | ⟨b, n', c, cur', h, k1, k2, k3, k4, k5⟩
 · cases h
 cases h
 refine ⟨a, ?_, e2⟩
 rw [uf g k2 (by rw [show kd.sz 125 = 3 by kernel_rfl, show (j * 3 + 1) % 3 = 1 by omega]; decide)]
 exact e1
theorem EE.mono {N' : Nat} (h : EE sh B N T w) (hw : WT kd.sig B N w) (g : Eff ui w w') (hN : N ≤ N') : EE sh B N' T w' := by
 obtain ⟨e, h1, h2, h3⟩ := h.blk
 have pc : ∀ q, (66, q) ∈ ae → q < 21 → w'.cell? ⟨sh.pe, q, none⟩ = w.cell? ⟨sh.pe, q, none⟩ := fun q hq hl => uf g h2 (by rw [uT, Nat.mod_eq_of_lt hl]; exact hq)
 refine ⟨fun q hq => ?_, h.blk.mono g, (pc 3 (by decide) (by omega)).trans h.tasks, h.recs, h.small, h.workers, h.o9.mono g hN, h.pI.mono g hN, h.yB.mono g hN, h.mY.mono g hN, h.Fz.mono hw h.o9 g, Nat.lt_of_lt_of_le h.Tg g.size⟩
 have hq' : q = 0 ∨ q = 9 ∨ q = 10 ∨ q = 11 ∨ q = 19 := by simpa [aQ] using hq
 rw [pc q (by rcases hq' with rfl | rfl | rfl | rfl | rfl <;> decide) (by omega)]
 exact h.el q hq
theorem vZ {E s : Nat} {v : Value} (h : aU w B N (.sl E s) v) (n : Int) : v ≠ .int .i64 n := by
 rcases df h with rfl | ⟨b, n', c, cur, rfl, -⟩ <;> intro h <;> cases h
theorem EE.ev (h : EE sh B N T w) (hw : WT kd.sig B N w) : aG sh (GW w) := by
 intro q hq
 refine ⟨fun n hn => ?_, fun w' g => (h.mono hw g (Nat.le_refl _)).el q hq⟩
 have hq' : q = 0 ∨ q = 9 ∨ q = 10 ∨ q = 11 ∨ q = 19 := by simpa [aQ] using hq
 rcases hq' with rfl | rfl | rfl | rfl | rfl
 · obtain ⟨W, e, -, h0⟩ := h.workers
   rw [hn] at e
   cases e
   exact h0
 · exact absurd hn (vZ h.o9 n)
 · exact absurd hn (vZ h.pI n)
 · exact absurd hn (vZ h.yB n)
 · exact absurd hn (vZ h.mY n)
theorem EE.sht (h : EE sh B N T w) (hw : WT kd.sig B N w) : ShT sh (GW w) T := ⟨fun w' g => (h.mono hw g (Nat.le_refl _)).tasks, h.recs, h.small⟩
theorem EE.claim (h : EE sh B N T w) (hw : WT kd.sig B N w) : TC Tryz.prog kd sh B (GW w) 146 aD := ady (h.ev hw) (eP w) (h.sht hw)
theorem EE.nH (h : EE sh B N T w) (hw : WT kd.sig B N w) : TC Tryz.prog kd sh B (GW w) 108 aF := adi (h.ev hw) (eP w) (by obtain ⟨W, e, h1, -⟩ := h.workers; exact ⟨W, e, h1⟩)
def kL (sh : Sh) (a b : Value) : Sh := { sh with vals := fun j => if j = 0 then a else b }
theorem EE.kL (h : EE sh B N T w) (a b : Value) : EE (kL sh a b) B N T w := ⟨h.el, h.blk, h.tasks, h.recs, h.small, h.workers, h.o9, h.pI, h.yB, h.mY, h.Fz, h.Tg⟩
def fc (w : World) (b r o : Nat) : Option Value := w.cell? ⟨b, r * 18 + o, none⟩
def rU : List (Nat × Nat) := ae ++ [(141, 0), (141, 1), (141, 2), (141, 3), (70, 0), (70, 1), (70, 2), (70, 3), (70, 4), (70, 5), (70, 6), (70, 7), (113, 0), (88, 0), (88, 1), (5, 0), (146, 0), (146, 1), (146, 2)]
theorem DJ {x : Nat × Nat} (h : x ∉ rU) : x ∉ ae := fun hx => h (List.mem_append_left _ hx)
abbrev lT (B : Nat) (w : World) (fb r : Nat) (k : Nat) (U : TypeId) (j : Nat) : Prop := w.heap.size ≤ k ∨ (k = fb ∧ r * 18 < j ∧ j < (r + 1) * 18) ∨ (U ≠ bT ∧ (U, j % kd.sz U) ∉ rU ∧ B ≤ k)
def qO (E : List EI) : Bool := E.all fun
 | .par i U o => decide (i = 1) && decide (U = bT) && decide (0 < o) && decide (o < 18)
 | .ty U o => decide (U ≠ bT) && !rU.contains (U, o)
theorem IE {E : List EI} {cx : Cx} {fb r : Nat} (hE : qO E = true) (hb : cx.base = w.heap.size) (hp : cx.ps 1 = (fb, r)) (h : Eff (dC B kd cx E) w w') : Eff (lT B w fb r) w w' := by
 refine h.mono fun k U j hk hc => ?_
 unfold qO at hE
 rw [List.all_eq_true] at hE
 rcases hc with hc | ⟨i, o, hm, rfl, rfl, jm⟩ | ⟨o, hm, rfl, jm⟩
 · exact .inl (by omega)
 · have := hE _ hm
   simp only [Bool.and_eq_true, decide_eq_true_eq] at this
   obtain ⟨⟨⟨rfl, rfl⟩, h1⟩, h2⟩ := this
   rw [hp, dR]
   exact .inr (.inl ⟨rfl, by simp only; omega, by simp only; omega⟩)
 · have := hE _ hm
   simp only [Bool.and_eq_true, decide_eq_true_eq, Bool.not_eq_true'] at this
   refine .inr (.inr ⟨this.1, fun hx => ?_, jm⟩)
   have h2 := List.contains_iff_mem.2 hx
   rw [this.2] at h2
   cases h2
theorem rZ {fb r : Nat} {f : Array Value} (hF : w.heap[fb]? = some (.cells f bT (0, 0))) (h : Eff (lT B w fb r) w w') : Eff ui w w' := by
 refine h.iI fun k c U f' j hk hc => ?_
 rcases hc with hc | ⟨rfl, h1, h2⟩ | ⟨-, h2⟩
 · have := aK hk; omega
 · rw [hF] at hk
   cases hk
   intro hx
   have : ∀ q, (bT, q) ∉ ae := fun q hq => by simp [ae, bT] at hq
   exact this _ hx
 · exact DJ h2.1
theorem lZ {f : FuncId} {s : aj} {alts : List (AT × Hm)} {fb r : Nat} {args : Array Value} (h : aV Tryz.prog kd sh B (GW w) f s alts) (hE : qO s.aS = true) (hk : s.pre.all (fun e => decide (e.1.1 = 1) && decide (e.1.2.1 = bT) && decide (e.1.2.2 < 18)) = true) (hlen : args.size = s.ps.length) (hw : WT kd.sig B N w) (hB : B ≤ w.heap.size) (hN : N + s.inc ≤ 68719476736) (hrow : eO kd w B bT fb r) (hp1 : s.ps[1]? = some (.ptr bT 0 (.par 1))) (ha1 : args[1]? = some (.pointer (some ⟨fb, r * 18, none⟩)))
   (hargs : ∀ (i : Nat) (t : AT), s.ps[i]? = some t → i ≠ 1 → ∃ v, args[i]? = some v ∧ bD kd (bQ kd sh s args w) w B N t v) (hpre : ∀ o t, s.pre.at (1, bT, o) = some t → ∃ u, fc w fb r o = some u ∧ bD kd (bQ kd sh s args w) w B N t u) :
   Calls Tryz.prog f args w fun e w' => ∃ v, e = .returned v ∧ WT kd.sig B (N + s.inc) w' ∧ Eff (lT B w fb r) w w' ∧ ∃ q ∈ alts, bD kd (bQ kd sh s args w) w' B (N + s.inc) q.1 v ∧ ∀ o t, q.2.at (1, bT, o) = some t → ∃ u, fc w' fb r o = some u ∧ bD kd (bQ kd sh s args w) w' B (N + s.inc) t u := by
 have hps : (bQ kd sh s args w).ps 1 = (fb, r) := by
   simp only [bQ, l8, hp1, ha1, dR]
   rw [Nat.mul_div_cancel _ (by omega)]
 obtain ⟨fr, hf1, hf2, hf3⟩ := id hrow
 have hfl := aK hf2
 refine (h N w args hlen hB hN hw (Eff.refl _ w) (fun i t ht => ?_) (fun i U o t ht => ?_)).mono ?_
 · by_cases hi : i = 1
   · subst hi
     rw [hp1] at ht
     cases ht
     exact ⟨_, ha1, fb, r, by rw [dR]; rfl, by rw [dR]; omega, hrow, hps, hfl⟩
   · exact hargs i t ht hi
 · have hm := List.all_eq_true.1 hk _ (Hm.at_mem ht)
   simp only [Bool.and_eq_true, decide_eq_true_eq] at hm
   obtain ⟨⟨rfl, rfl⟩, ho⟩ := hm
   obtain ⟨u, hu1, hu2⟩ := hpre o t ht
   exact ⟨by rw [hps]; exact hfl, by rw [dR]; exact ho, by rw [hps]; exact hrow, u, by rw [hps, dR]; exact hu1, hu2⟩
 · rintro e w' ⟨v, rfl, g1, g2, q, hq, g3, g4⟩
   refine ⟨v, rfl, g1, IE hE rfl hps g2, q, hq, g3, fun o t ht => ?_⟩
   obtain ⟨-, -, -, u, k1, k2⟩ := g4 1 bT o t ht
   rw [hps, dR] at k1
   exact ⟨u, k1, k2⟩
end
section
open Go.RowKit
variable [Inhabited cK] {sh : Sh} {B N T : Nat} {w w' : World}
def tX : List Int := [6, 7, 8, 9, 11, 12, 13, 14, 15, 16, 18, 19, 20, 21, 22]
structure RL (w : World) (fb r lb n cap : Nat) (t : Int) : Prop where
 l : fc w fb r 17 = some (.slice (some ⟨lb, 0, none⟩) (n + 1) cap)
 t : w.cell? ⟨lb, n, none⟩ = some (.int .i64 t)
 ne : lb ≠ uO
structure FI (T : Nat) (w : World) (fb r : Nat) (k ln : Int) : Prop where
 c0 : fc w fb r 0 = some (.int .i64 k)
 c1 : fc w fb r 1 = some (.int .i64 ln)
 lo : 0 ≤ k
 hi : k ≤ 26
 run : k = 24 → ∃ lb n cap t, RL w fb r lb n cap t ∧ (ln = 1 ∨ (ln ∈ tX ∧ 0 ≤ t ∧ t < T))
 vk : k = 26 → ∃ i, fc w fb r 9 = some (.int .i64 i) ∧ 0 ≤ i
def Al (v : Value) (d : Bool) (k x : Int) : Prop := v = .agg #[.bool d, .int .i64 k, .int .i64 x] ∧ bB .i64 k ∧ bB .i64 x
theorem aba {cs : List Value} (h : bJ w B N af cs) : ∃ d k x, cs = [.bool d, .int .i64 k, .int .i64 x] ∧ bB .i64 k ∧ bB .i64 x := by
 match cs, h with
 | [a, b, c], h =>
   obtain ⟨⟨d, rfl⟩, ⟨k, rfl, h1⟩, ⟨x, rfl, h2⟩, -⟩ := h
   exact ⟨d, k, x, rfl, h1, h2⟩
 | [], h => exact h.elim
 | [_], h => exact h.2.elim
 | [_, _], h => exact h.2.2.elim
 | _ :: _ :: _ :: _ :: _, h => exact h.2.2.2.elim
theorem nk {v : Value} {n : Int} (h : mI w B N (.ak af [n]) v) : ∃ d k x, Al v d k x ∧ d = decide (n = 1) := by
 obtain ⟨cs, rfl, ha, m, hm, hh⟩ := h
 obtain ⟨d, k, x, rfl, h1, h2⟩ := aba ha
 simp only [List.mem_singleton] at hm
 subst hm
 simp at hh
 exact ⟨d, k, x, ⟨rfl, h1, h2⟩, hh⟩
theorem TZ {v : Value} (h : mI w B N (.agg af) v) : ∃ d k x, Al v d k x := by
 obtain ⟨cs, rfl, ha⟩ := h
 obtain ⟨d, k, x, rfl, h1, h2⟩ := aba ha
 exact ⟨d, k, x, rfl, h1, h2⟩
theorem qx {fb r o : Nat} {f : Array Value} (hF : w.heap[fb]? = some (.cells f bT (0, 0))) (h : Eff (lT B w fb r) w w') (ho : o = 0 ∨ 18 ≤ o) {r' : Nat} (hr : r' = r ∨ r' ≠ r ∧ o < 18) : fc w' fb r' o = fc w fb r' o := by
 obtain ⟨c', h1, h2, h3⟩ := h.cells _ _ _ _ hF
 unfold fc
 rw [aa h1, aa hF, h3]
 have := aK hF
 rintro (hx | ⟨-, hx, hy⟩ | ⟨hx, -⟩)
 · omega
 · omega
 · exact hx rfl
theorem adI {fb r r' o : Nat} {f : Array Value} (hF : w.heap[fb]? = some (.cells f bT (0, 0))) (h : Eff (lT B w fb r) w w') (hr : r' ≠ r) (ho : o < 18) : fc w' fb r' o = fc w fb r' o := by
 obtain ⟨c', h1, h2, h3⟩ := h.cells _ _ _ _ hF
 unfold fc
 rw [aa h1, aa hF, h3]
 have := aK hF
 rintro (hx | ⟨-, hx, hy⟩ | ⟨hx, -⟩)
 · omega
 · rcases Nat.lt_or_ge r' r with h | h <;> omega
 · exact hx rfl
theorem pQ {fb r o : Nat} {k : IntKind} (hw : WT kd.sig B N w) (hrow : eO kd w B bT fb r) (ho : o < 18) (hk : ax[o]? = some (.int k)) : ∃ n, fc w fb r o = some (.int k n) ∧ bB k n := by
 obtain ⟨f, h1, h2, h3⟩ := hrow
 rw [dR] at h3
 obtain ⟨v, e, n, rfl, hn⟩ := bZ hw (T := bT) (L := ax) (by kernel_rfl) h1 h2 (i := r * 18 + o) (j := o) (by omega) (by show (r * 18 + o) % 18 = o; omega) hk
 exact ⟨n, e, hn⟩
theorem qM {fb r : Nat} (hw : WT kd.sig B N w) (hrow : eO kd w B bT fb r) {v : Value} (hv : fc w fb r 17 = some v) : aU w B N (.sl 3 1) v := by
 obtain ⟨f, h1, h2, h3⟩ := hrow
 rw [dR] at h3
 obtain ⟨v', e, h⟩ := bZ hw (T := bT) (L := ax) (by kernel_rfl) h1 h2 (i := r * 18 + 17) (j := 17) (by omega) (by show (r * 18 + 17) % 18 = 17; omega) rfl
 have : fc w fb r 17 = some v' := e
 rw [hv] at this
 cases this
 exact h
theorem Jn {lb n cap : Nat} (hw : WT kd.sig B N w) (h : aU w B N (.sl 3 1) (.slice (some ⟨lb, 0, none⟩) (n + 1) cap)) : ∃ t, w.cell? ⟨lb, n, none⟩ = some (.int .i64 t) := by
 rcases df h with h | ⟨b, n', c, cur, h, k1, k2, k3, k4, k5⟩
 · cases h
 cases h
 obtain ⟨_, e, t, rfl, -⟩ := bZ hw (T := 3) (L := [.int .i64]) (by kernel_rfl) k1 k2 (i := n) (j := 0) (by omega) (by show n % 1 = 0; omega) rfl
 exact ⟨t, e⟩
theorem l7 {lb n cap i : Nat} {v : Value} (h : aU w B N (.sl 3 1) (.slice (some ⟨lb, 0, none⟩) n cap)) (g : Eff ui w w') (hv : w.cell? ⟨lb, i, none⟩ = some v) : w'.cell? ⟨lb, i, none⟩ = some v := by
 rcases df h with h | ⟨b, n', c, cur, h, k1, k2, k3, k4, k5⟩
 · cases h
 cases h
 rw [uf g k2 (by rw [show kd.sz 3 = 1 by kernel_rfl, Nat.mod_one]; decide)]
 exact hv
theorem T9 {N' : Nat} {cx : Cx} {fb r lb n cap m : Nat} {t : Int} {v : Value} {q : AT × Hm} (hw : WT kd.sig B N w) (hw' : WT kd.sig B N' w') (hrow : eO kd w B bT fb r) (hE : Eff (lT B w fb r) w w') (hBb : B ≤ cx.base) (hsb : uO < cx.base)
   (hk : fc w fb r 0 = some (.int .i64 24)) (hL : RL w fb r lb n cap t) (ht : 0 ≤ t ∧ t < T) (h0 : cx.vals 0 = .slice (some ⟨lb, 0, none⟩) (n + 1) cap) (h1 : q ∈ dh ∨ (q ∈ bA ∧ cx.vals 1 = .slice (some ⟨lb, 0, none⟩) (m + 1) cap ∧ m ≤ n))
   (hv : bD kd cx w' B N' q.1 v) (hH : ∀ o t, q.2.at (1, bT, o) = some t → ∃ u, fc w' fb r o = some u ∧ bD kd cx w' B N' t u) :
   ∃ d k x, Al v d k x ∧ (d = false → ∃ ln, FI T w' fb r 24 ln) := by
 obtain ⟨f, hf1, hf2, hf3⟩ := id hrow
 have hk' : fc w' fb r 0 = some (.int .i64 24) := by rw [qx hf2 hE (.inl rfl) (.inl rfl)]; exact hk
 have jq := rZ hf2 hE
 have hrow' : eO kd w' B bT fb r := hrow.mono hE
 have mZ := qM hw hrow hL.l
 have base : ∀ ln, fc w' fb r 1 = some (.int .i64 ln) → (∃ lb n cap t, RL w' fb r lb n cap t ∧ (ln = 1 ∨ (ln ∈ tX ∧ 0 ≤ t ∧ t < T))) → FI T w' fb r 24 ln := fun ln h1 h2 => ⟨hk', h1, by omega, by omega, fun _ => h2, fun h => by omega⟩
 have hq : q = WZ ∨ q = zC ∨ (q = ah1 ∧ cx.vals 1 = .slice (some ⟨lb, 0, none⟩) (m + 1) cap ∧ m ≤ n) ∨ ∃ ln ∈ LC, q = zx ln := by
   rcases h1 with h1 | ⟨h1, h2⟩
   · simp only [dh, List.mem_cons, List.mem_map] at h1
     rcases h1 with h | h | ⟨ln, h, rfl⟩
     · exact .inl h
     · exact .inr (.inl h)
     · exact .inr (.inr (.inr ⟨ln, h, rfl⟩))
   · simp only [bA, List.mem_cons, List.mem_map] at h1
     rcases h1 with h | h | h | ⟨ln, h, rfl⟩
     · exact .inl h
     · exact .inr (.inl h)
     · exact .inr (.inr (.inl ⟨h, h2⟩))
     · exact .inr (.inr (.inr ⟨ln, h, rfl⟩))
 rcases hq with rfl | rfl | ⟨rfl, h2, h3⟩ | ⟨ln, hln, rfl⟩
 · obtain ⟨d, k, x, hr, hd⟩ := nk (n := 1) hv
   exact ⟨d, k, x, hr, fun h => by rw [hd] at h; cases h⟩
 · obtain ⟨d, k, x, hr, hd⟩ := nk (n := 0) hv
   refine ⟨d, k, x, hr, fun _ => ⟨1, base 1 ?_ ?_⟩⟩
   · obtain ⟨u, e, hu⟩ := hH 1 (.aN .i64 1) rfl
     rw [e, hu.1]
   · obtain ⟨u, e, hu1, hu2⟩ := hH 17 (.oL 3 1) rfl
     rcases df hu1 with rfl | ⟨b, n', c, cur, rfl, k1, k2, k3, k4, k5⟩
     · simp [bO] at hu2
     · simp only [bO] at hu2
       obtain ⟨n2, rfl⟩ : ∃ n2, n' = n2 + 1 := ⟨n' - 1, by omega⟩
       obtain ⟨t', ht'⟩ := Jn hw' (aU.lower hu1 hBb)
       exact ⟨b, n2, c, t', ⟨e, ht', by omega⟩, .inl rfl⟩
 · obtain ⟨d, k, x, hr, hd⟩ := nk (n := 0) hv
   refine ⟨d, k, x, hr, fun _ => ⟨1, base 1 ?_ ?_⟩⟩
   · obtain ⟨u, e, hu⟩ := hH 1 (.aN .i64 1) rfl
     rw [e, hu.1]
   · obtain ⟨u, e, hu⟩ := hH 17 (.val 1) rfl
     have hu' : u = cx.vals 1 := hu
     rw [hu', h2] at e
     obtain ⟨t', ht'⟩ := Jn hw' (qM hw' hrow' e)
     exact ⟨lb, m, cap, t', ⟨e, ht', hL.ne⟩, .inl rfl⟩
 · obtain ⟨d, k, x, hr, hd⟩ := nk (n := 0) hv
   refine ⟨d, k, x, hr, fun _ => ⟨ln, base ln ?_ ?_⟩⟩
   · obtain ⟨u, e, hu⟩ := hH 1 (.aN .i64 ln) rfl
     rw [e, hu.1]
   · obtain ⟨u, e, hu⟩ := hH 17 (.val 0) rfl
     have hu' : u = cx.vals 0 := hu
     rw [hu', h0] at e
     refine ⟨lb, n, cap, t, ⟨e, l7 mZ jq hL.t, hL.ne⟩, ?_⟩
     simp only [LC, List.mem_cons, List.not_mem_nil, or_false] at hln
     rcases hln with h | h
     · exact .inl h
     · refine .inr ⟨?_, ht⟩
       simp only [tX, List.mem_cons, List.not_mem_nil, or_false]
       exact .inr h
end
end Go.Proofs.YtncnepmgmphanaaGreatDoor
