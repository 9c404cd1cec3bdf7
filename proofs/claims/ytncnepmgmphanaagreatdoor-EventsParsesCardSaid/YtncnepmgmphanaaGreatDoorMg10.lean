/- Back of a Run frame that takes a new task: up to the instruction told exactly, then by types. No condition beside those named. -/
import Derived.Test.YtncnepmgmphanaaGreatDoorMg08
import Derived.Test.YtncnepmgmphanaaGreatDoorMg09
import Derived.Deep.DeepCutAuto
import Derived.Test.YtncnepmgmphanaaGreatDoorTcRun
import Derived.Test.YtncnepmgmphanaaGreatDoorTcRunK
set_option linter.unusedVariables false
set_option linter.unusedSimpArgs false
set_option linter.unusedSectionVars false
namespace Go.Proofs.YtncnepmgmphanaaGreatDoor
section
open Go.RowKit
variable {sh : Sh} {B N : Nat} {G : World → Prop}
structure R5 (w : World) (pe fb o lb n cap rb nr cr np cp : Nat) (ap : Option Addr) (t : Nat) (p pc : Int) : Prop where
 JH : fb < w.heap.size
 rbl : rb < w.heap.size
 pel : pe < w.heap.size
 l1 : w.cell? ⟨fb, o + 1, none⟩ = some (.int .i64 5)
 Yc : w.cell? ⟨fb, o + 17, none⟩ = some (.slice (some ⟨lb, 0, none⟩) (n + 1) cap)
 lt : w.cell? ⟨lb, n, none⟩ = some (.int .i64 t)
 ln : n ≤ 68719476736
 c9 : w.cell? ⟨pe, 9, none⟩ = some (.slice ap np cp)
 c19 : w.cell? ⟨pe, 19, none⟩ = some (.slice (some ⟨rb, 0, none⟩) nr cr)
 ht : t < nr
 d0 : w.cell? ⟨rb, t * 7, none⟩ = some (.int .i64 p)
 d2 : w.cell? ⟨rb, t * 7 + 2, none⟩ = some (.int .i64 pc)
def PL : List EI := aY ++ bC ++ bz ++ bI ++ [.par 1 118 17]
def iD (tx ty : AT) : aj := ⟨[.ptr 66 0 .env, .ptr 118 0 (.par 1), tx, ty], .v (.agg af), PL, 5, [((1, 118, 1), .aN .i64 5), ((1, 118, 17), .val 0)], []⟩
def AJ : List (AT × Hm) := [zx 1, zx 6]
def vQ : List EI := PL ++ mR 146 3
def Uu (tx ty : AT) : Gm := [(0, some (none, .ptr 66 0 .env)), (1, some (none, .ptr 118 0 (.par 1))), (2, some (none, tx)), (3, some (none, ty)), (8, some (none, .ptr 146 0 (.par 1000))), (9, some (none, .fB 19)), (10, some (none, .ptr 137 0 .any)), (11, some (none, .ptr 125 0 .new))]
theorem oF {kd : Kd} {cx : Cx} {a : Act} {w : World} {d : Nat} {u : AT} {Γ : Gm} (hd : bD kd cx w B N u (slot a d)) (h : wE kd cx a w B N Γ.at) : wE kd cx a w B N (Gm.at ((d, some (none, u)) :: Γ)) := fun t e he => by
 rw [Gm.at_set] at he
 split at he
 · rename_i e'
   subst e'
   cases he
   exact hd
 · exact h t e he
theorem aia {kd : Kd} {cx : Cx} {a : Act} {w : World} : wE kd cx a w B N (Gm.at []) := fun t e he => by cases he
theorem Z0 (tx ty : AT) : Plain (Uu tx ty) := by
 unfold Uu
 repeat first
   | exact fun t e he => by cases he
   | refine pW ?_
set_option maxRecDepth 100000 in
set_option maxHeartbeats 1000000 in
theorem ak7 (w : World) (fb r lb n cap rb nr cr np cp : Nat) (ap : Option Addr) (t : Nat) (p pc : Int) (x y : Value) (tx ty : AT) (h : R5 w sh.pe fb (r * 18) lb n cap rb nr cr np cp ap t p pc) (qb m mc z : Nat) (hpv : eG w (.slice ap np cp) p (.slice (some ⟨qb, 0, none⟩) m mc)) (hy : pc = z) (hym : z < m) (mo : qb < w.heap.size) (i0 i1 i2 : Int) (hi0 : w.cell? ⟨qb, z * 3, none⟩ = some (.int .i64 i0)) (hi1 : w.cell? ⟨qb, z * 3 + 1, none⟩ = some (.int .i64 i1)) (hi2 : w.cell? ⟨qb, z * 3 + 2, none⟩ = some (.int .i64 i2)) (hfr : fb ≠ rb) (hrf : rb ≠ fb)
   (hev : aG sh G) (hS : Safe kd ae G) (ag : TC Tryz.prog kd sh B G 146 aD) (ai : TC Tryz.prog kd sh B G 108 aF) (hG : G w)
   (hxy : (tx = .aN .i64 3 ∧ ty = .v (.c (.int .i64))) ∨ (tx = .v (.c (.int .i64)) ∧ ty = .fB 19))
   (ha : ∀ w1 : World, Eff (fun _ _ _ => False) w w1 → ∀ a : Act, a.tmps.size = Tryz.f116.ntmps → slot a 0 = .pointer (some ⟨sh.pe, 0, none⟩) → slot a 1 = .pointer (some ⟨fb, r * 18, none⟩) → slot a 2 = x → slot a 3 = y → slot a 8 = .pointer (some ⟨w.heap.size, 0, none⟩) → slot a 9 = .int .i64 t → slot a 10 = .pointer (some ⟨rb, t * 7, none⟩) → slot a 11 = .pointer (some ⟨w.heap.size + 1, 0, none⟩) → (∃ q', w1 = ((w.alloc (.cells #[.bool false, .int .i64 0, .int .i64 0] 146)).drewN q').alloc (.cells #[.int .i64 i0, .int .i64 i1, .int .i64 i2] 125)) → a.defers = [] →
     dB kd (gX kd sh (iD tx ty) #[.pointer (some ⟨sh.pe, 0, none⟩), .pointer (some ⟨fb, r * 18, none⟩), x, y] w (w.alloc (.cells #[.bool false, .int .i64 0, .int .i64 0] 146))) vQ B (w.alloc (.cells #[.bool false, .int .i64 0, .int .i64 0] 146)) Tryz.f116.ntmps (N + 0) (iD tx ty).pre (Uu tx ty).at a w1)
   (hB : B ≤ w.heap.size) (hN : N + 5 ≤ 68719476736) {R : Ending → World → Prop}
   (fin : ∀ (Γ : Gm) (H : Hm) (n : Nat) (a : Act) (w' : World), kJ Tryz.prog kd Tryz.f116.results.toList (iD tx ty) AJ Γ H n = true → dB kd (gX kd sh (iD tx ty) #[.pointer (some ⟨sh.pe, 0, none⟩), .pointer (some ⟨fb, r * 18, none⟩), x, y] w (w.alloc (.cells #[.bool false, .int .i64 0, .int .i64 0] 146))) vQ B (w.alloc (.cells #[.bool false, .int .i64 0, .int .i64 0] 146)) Tryz.f116.ntmps (N + n) H Γ.at a w' → a.defers = [] ∧ ∃ v, (results Tryz.f116 a.tmps).run Tryz.prog w' = .ok v w' ∧ R (.returned v) w') :
   Calls Tryz.prog 116 #[.pointer (some ⟨sh.pe, 0, none⟩), .pointer (some ⟨fb, r * 18, none⟩), x, y] w R := by
 obtain ⟨h1, h2, h3, h7, h8, h9, h10, h11, h12, Jr, uW, h15⟩ := h
 have E := Eff.bL (fun _ _ _ => False) w (.cells #[.bool false, .int .i64 0, .int .i64 0] 146)
 have HG : ∀ w', Eff (dC B kd (gX kd sh (iD tx ty) #[.pointer (some ⟨sh.pe, 0, none⟩), .pointer (some ⟨fb, r * 18, none⟩), x, y] w (w.alloc (.cells #[.bool false, .int .i64 0, .int .i64 0] 146))) vQ) (w.alloc (.cells #[.bool false, .int .i64 0, .int .i64 0] 146)) w' → G w' := fun w' he => hS _ w' (hS w _ hG (E.mono fun _ _ _ _ h => h.elim)) (sH (E := vQ) (by decide) rfl he)
 have HG := Lib.hid HG
 have AA := Lib.hid ha
 have FIN := Lib.hid fin
 have TP := Lib.hid (gF _ fb (r * 18) lb n cap t h10 (E.cell h8 fun _ h => h) (E.cell h9 fun _ h => h))
 have PG := Lib.hid (fun w2 (E2 : Eff (fun _ _ _ => False) w w2) => qI w2 sh.pe rb nr cr t np cp ap p (.slice (some ⟨qb, 0, none⟩) m mc) (E2.cell h12 fun _ h => h) Jr (E2.cell uW fun _ h => h) (E2.cell h11 fun _ h => h) (hpv.mono E2))
 have HH := Lib.hid (And.intro hev (And.intro hS (And.intro ag ai)))
 have HX := Lib.hid (And.intro hxy (And.intro hB hN))
 subst hy
 have ahU : (z : Int) < (m : Int) := by omega
 have hy0 : (0 : Int) ≤ (z : Int) := by omega
 have hti : (t : Int) < (nr : Int) := by omega
 have ht0 : (0 : Int) ≤ (t : Int) := by omega
 clear E hpv h8 h9 h10 h11 uW ha fin hev hS ag ai hG hxy hB hN
 go_enter Tryz.func116, Tryz.ntmps116
 go_wp2_with (first
   | (go_at_call 156; refine TP.out.mono ?_; rintro e w' ⟨rfl, q, rfl⟩))
 go_cut [11] (fun s11 wx => s11 = .pointer (some ⟨w.heap.size + 1, 0, none⟩) ∧ ∃ q', wx = ((w.alloc (.cells #[.bool false, .int .i64 0, .int .i64 0] 146)).drewN q').alloc (.cells #[.int .i64 i0, .int .i64 i1, .int .i64 i2] 125))
 case first =>
   go_region_with (go_at_call 157; refine (PG.out _ (by first | exact ((Eff.bL _ _ _).drewN _) | exact (((Eff.bL _ _ _).drewN _).drew) | exact (((Eff.bL _ _ _).drewN _).alloc _) | exact ((((Eff.bL _ _ _).drewN _).drew).alloc _))).mono ?_; rintro e w' ⟨rfl, rfl⟩)
   all_goals
     go_wp2_with fail
     go_meet
     exact ⟨rfl, _, rfl⟩
 case rest =>
   obtain ⟨rfl, q', hwc⟩ := hcut
   have Ewc : Eff (fun _ _ _ => False) w wc := by rw [hwc]; exact (((Eff.bL _ _ _).drewN _).alloc _)
   apply_assumption
   obtain ⟨hev, hS, ag, ai⟩ := HH.out
   obtain ⟨hxy, hB, hN⟩ := HX.out
   have hFT : ∀ y, (false = true ∨ y = none) → ∀ f s, ah bu f = some s → au Tryz.prog f ∧ TC Tryz.prog kd (pR sh y) B G f s := fun y hy => by
     rcases hy with hy | rfl
     · cases hy
     · exact aX hev hS ag ai
   have hFA : ∀ y, (false = true ∨ y = none) → ∀ f q, aM [] f = some q → au Tryz.prog f ∧ aV Tryz.prog kd (pR sh y) B G f q.1 q.2 := fun y hy => by
     rcases hy with hy | rfl
     · cases hy
     · exact aJ
   have hBs : B ≤ (w.alloc (.cells #[.bool false, .int .i64 0, .int .i64 0] 146)).heap.size := by simp; omega
   rcases hxy with ⟨rfl, rfl⟩ | ⟨rfl, rfl⟩
   · refine oZ (ev := aQ) (sh := sh) (lp := false) (G := G) (E := vQ) (nt := Tryz.f116.ntmps) (FT := ah bu) (FA := aM []) hFT hFA hev (fun hy => by cases hy) hBs mixed N (lim := 5) hN _ _ ⟨none, .inr rfl, rfl⟩ rfl HG.out (Uu (.aN .i64 3) (.v (.c (.int .i64)))) (iD (.aN .i64 3) (.v (.c (.int .i64)))).pre 0
       (fun Γ H n => iW Tryz.prog kd aQ (ah bu) (aM []) false vQ Tryz.f116.ntmps 5 _ Γ H n (fun _ _ _ => false) (fun _ _ _ _ => false) (kJ Tryz.prog kd Tryz.f116.results.toList (iD (.aN .i64 3) (.v (.c (.int .i64)))) AJ))
       (fun _ _ _ _ => false) (kJ Tryz.prog kd Tryz.f116.results.toList (iD (.aN .i64 3) (.v (.c (.int .i64)))) AJ) _ _ _ ?akK ?ak0 (Z0 (.aN .i64 3) (.v (.c (.int .i64)))) (by
         intro Γ H n a w2 hk hs hp
         simp only [Exit.then, Exit.inBlock]
         apply_assumption
         exact oZ hFT hFA hev (fun hy => by cases hy) hBs mixed N hN _ _ ⟨none, .inr rfl, rfl⟩ rfl HG.out _ _ _ (fun _ _ _ => false) (fun _ _ _ _ => false) _ _ _ _ hk hs hp (fun Γ H n a w' hk => by cases hk) (fun i Γ H n a w' hk => by cases hk) (fun Γ H n a w' hk hs _ => by obtain ⟨e1, v, e2, e3⟩ := FIN.out Γ H n a w' hk hs; exact bodyPost_ret e2 e1 e3)) ?h2a ?h3a
     case ak0 => exact AA.out wc Ewc _ (by rfl) (by rfl) (by rfl) (by rfl) (by rfl) (by rfl) (by rfl) (by rfl) (by rfl) ⟨q', hwc⟩ (by rfl)
     case h2a => exact fun i Γ H n a w' hk => by cases hk
     case h3a => exact fun Γ H n a w' hk hs _ => by obtain ⟨e1, v, e2, e3⟩ := FIN.out Γ H n a w' hk hs; exact bodyPost_ret e2 e1 e3
     case akK => kernel_rfl
   · refine oZ (ev := aQ) (sh := sh) (lp := false) (G := G) (E := vQ) (nt := Tryz.f116.ntmps) (FT := ah bu) (FA := aM []) hFT hFA hev (fun hy => by cases hy) hBs mixed N (lim := 5) hN _ _ ⟨none, .inr rfl, rfl⟩ rfl HG.out (Uu (.v (.c (.int .i64))) (.fB 19)) (iD (.v (.c (.int .i64))) (.fB 19)).pre 0
       (fun Γ H n => iW Tryz.prog kd aQ (ah bu) (aM []) false vQ Tryz.f116.ntmps 5 _ Γ H n (fun _ _ _ => false) (fun _ _ _ _ => false) (kJ Tryz.prog kd Tryz.f116.results.toList (iD (.v (.c (.int .i64))) (.fB 19)) AJ))
       (fun _ _ _ _ => false) (kJ Tryz.prog kd Tryz.f116.results.toList (iD (.v (.c (.int .i64))) (.fB 19)) AJ) _ _ _ ?ak8 ?alg (Z0 (.v (.c (.int .i64))) (.fB 19)) (by
         intro Γ H n a w2 hk hs hp
         simp only [Exit.then, Exit.inBlock]
         apply_assumption
         exact oZ hFT hFA hev (fun hy => by cases hy) hBs mixed N hN _ _ ⟨none, .inr rfl, rfl⟩ rfl HG.out _ _ _ (fun _ _ _ => false) (fun _ _ _ _ => false) _ _ _ _ hk hs hp (fun Γ H n a w' hk => by cases hk) (fun i Γ H n a w' hk => by cases hk) (fun Γ H n a w' hk hs _ => by obtain ⟨e1, v, e2, e3⟩ := FIN.out Γ H n a w' hk hs; exact bodyPost_ret e2 e1 e3)) ?h2b ?h3b
     case alg => exact AA.out wc Ewc _ (by rfl) (by rfl) (by rfl) (by rfl) (by rfl) (by rfl) (by rfl) (by rfl) (by rfl) ⟨q', hwc⟩ (by rfl)
     case h2b => exact fun i Γ H n a w' hk => by cases hk
     case h3b => exact fun Γ H n a w' hk hs _ => by obtain ⟨e1, v, e2, e3⟩ := FIN.out Γ H n a w' hk hs; exact bodyPost_ret e2 e1 e3
     case ak8 => kernel_rfl
end
section
variable {sh : Sh} {B : Nat} {G : World → Prop}
theorem Zu : aP Tryz.prog kd aQ (ah bV) (aM [(95, bS, [(bS.res, bS.post)])]) false ae Tryz.f110 Dw bA = true := by kernel_rfl
theorem Yn (hev : aG sh G) (hS : Safe kd ae G) (ag : TC Tryz.prog kd sh B G 146 aD) (ai : TC Tryz.prog kd sh B G 108 aF) (htop : TC Tryz.prog kd sh B G 156 bU) : aV Tryz.prog kd sh B G 110 Dw bA := aB Tryz.func110 Zu (bR hev hS ag ai htop) (aL fG (fH hev hS) aJ) hev hS mixed
theorem aaZ : aP Tryz.prog kd aQ (ah bV) (aM [(95, bS, [(bS.res, bS.post)])]) false ae Tryz.f110 DU bA = true := by kernel_rfl
theorem abQ (hev : aG sh G) (hS : Safe kd ae G) (ag : TC Tryz.prog kd sh B G 146 aD) (ai : TC Tryz.prog kd sh B G 108 aF) (htop : TC Tryz.prog kd sh B G 156 bU) : aV Tryz.prog kd sh B G 110 DU bA := aB Tryz.func110 aaZ (bR hev hS ag ai htop) (aL fG (fH hev hS) aJ) hev hS mixed
theorem U6 : aP Tryz.prog kd aQ (ah bV) (aM [(95, bS, [(bS.res, bS.post)])]) false ae Tryz.f110 xk bA = true := by kernel_rfl
theorem XU (hev : aG sh G) (hS : Safe kd ae G) (ag : TC Tryz.prog kd sh B G 146 aD) (ai : TC Tryz.prog kd sh B G 108 aF) (htop : TC Tryz.prog kd sh B G 156 bU) : aV Tryz.prog kd sh B G 110 xk bA := aB Tryz.func110 U6 (bR hev hS ag ai htop) (aL fG (fH hev hS) aJ) hev hS mixed
theorem WM : aP Tryz.prog kd aQ (ah bV) (aM [(95, bS, [(bS.res, bS.post)])]) false ae Tryz.f110 yG bA = true := by kernel_rfl
theorem WJ (hev : aG sh G) (hS : Safe kd ae G) (ag : TC Tryz.prog kd sh B G 146 aD) (ai : TC Tryz.prog kd sh B G 108 aF) (htop : TC Tryz.prog kd sh B G 156 bU) : aV Tryz.prog kd sh B G 110 yG bA := aB Tryz.func110 WM (bR hev hS ag ai htop) (aL fG (fH hev hS) aJ) hev hS mixed
theorem UY : aP Tryz.prog kd aQ (ah bV) (aM [(95, bS, [(bS.res, bS.post)])]) false ae Tryz.f110 y7 bA = true := by kernel_rfl
theorem Xu (hev : aG sh G) (hS : Safe kd ae G) (ag : TC Tryz.prog kd sh B G 146 aD) (ai : TC Tryz.prog kd sh B G 108 aF) (htop : TC Tryz.prog kd sh B G 156 bU) : aV Tryz.prog kd sh B G 110 y7 bA := aB Tryz.func110 UY (bR hev hS ag ai htop) (aL fG (fH hev hS) aJ) hev hS mixed
theorem WB : aP Tryz.prog kd aQ (ah bV) (aM [(95, bS, [(bS.res, bS.post)])]) false ae Tryz.f110 Ac bA = true := by kernel_rfl
theorem Wx (hev : aG sh G) (hS : Safe kd ae G) (ag : TC Tryz.prog kd sh B G 146 aD) (ai : TC Tryz.prog kd sh B G 108 aF) (htop : TC Tryz.prog kd sh B G 156 bU) : aV Tryz.prog kd sh B G 110 Ac bA := aB Tryz.func110 WB (bR hev hS ag ai htop) (aL fG (fH hev hS) aJ) hev hS mixed
theorem Xw : aP Tryz.prog kd aQ (ah bV) (aM [(95, bS, [(bS.res, bS.post)])]) false ae Tryz.f110 yg bA = true := by kernel_rfl
theorem XY (hev : aG sh G) (hS : Safe kd ae G) (ag : TC Tryz.prog kd sh B G 146 aD) (ai : TC Tryz.prog kd sh B G 108 aF) (htop : TC Tryz.prog kd sh B G 156 bU) : aV Tryz.prog kd sh B G 110 yg bA := aB Tryz.func110 Xw (bR hev hS ag ai htop) (aL fG (fH hev hS) aJ) hev hS mixed
theorem Vq : aP Tryz.prog kd aQ (ah bV) (aM [(95, bS, [(bS.res, bS.post)])]) false ae Tryz.f110 Ab bA = true := by kernel_rfl
theorem XP (hev : aG sh G) (hS : Safe kd ae G) (ag : TC Tryz.prog kd sh B G 146 aD) (ai : TC Tryz.prog kd sh B G 108 aF) (htop : TC Tryz.prog kd sh B G 156 bU) : aV Tryz.prog kd sh B G 110 Ab bA := aB Tryz.func110 Vq (bR hev hS ag ai htop) (aL fG (fH hev hS) aJ) hev hS mixed
theorem UO : aP Tryz.prog kd aQ (ah Us) (aM [(95, bS, [(bS.res, bS.post)])]) false ae Tryz.f110 jC [(jC.res, jC.post)] = true := by kernel_rfl
theorem UM (hev : aG sh G) (hS : Safe kd ae G) (ag : TC Tryz.prog kd sh B G 146 aD) (ai : TC Tryz.prog kd sh B G 108 aF) (Li : TC Tryz.prog kd sh B G 156 Aq) : aV Tryz.prog kd sh B G 110 jC [(jC.res, jC.post)] := aB Tryz.func110 UO (bn su Li (aX hev hS ag ai)) (aL fG (fH hev hS) aJ) hev hS mixed
theorem QF : aP Tryz.prog kd aQ (ah Us) (aM [(110, jC, [(jC.res, jC.post)])]) false ae Tryz.f67 kz [(kz.res, kz.post)] = true := by kernel_rfl
theorem Mi (hev : aG sh G) (hS : Safe kd ae G) (ag : TC Tryz.prog kd sh B G 146 aD) (ai : TC Tryz.prog kd sh B G 108 aF) (Li : TC Tryz.prog kd sh B G 156 Aq) : aV Tryz.prog kd sh B G 67 kz [(kz.res, kz.post)] := aB Tryz.func67 QF (bn su Li (aX hev hS ag ai)) (aL gU (UM hev hS ag ai Li) aJ) hev hS mixed
theorem UL : aP Tryz.prog kd aQ (ah bV) (aM []) false ae Tryz.f159 xu bA = true := by kernel_rfl
theorem Xe (hev : aG sh G) (hS : Safe kd ae G) (ag : TC Tryz.prog kd sh B G 146 aD) (ai : TC Tryz.prog kd sh B G 108 aF) (htop : TC Tryz.prog kd sh B G 156 bU) : aV Tryz.prog kd sh B G 159 xu bA := aB Tryz.func159 UL (bR hev hS ag ai htop) aJ hev hS mixed
theorem Xq : aP Tryz.prog kd aQ (ah bV) (aM [(160, bH, [(bH.res, bH.post)])]) false ae Tryz.f159 xJ dh = true := by kernel_rfl
theorem X0 (hev : aG sh G) (hS : Safe kd ae G) (ag : TC Tryz.prog kd sh B G 146 aD) (ai : TC Tryz.prog kd sh B G 108 aF) (htop : TC Tryz.prog kd sh B G 156 bU) (dV : aV Tryz.prog kd sh B G 160 bH [(bH.res, bH.post)]) : aV Tryz.prog kd sh B G 159 xJ dh := aB Tryz.func159 Xq (bR hev hS ag ai htop) (aL iK dV aJ) hev hS mixed
theorem Wy : aP Tryz.prog kd aQ (ah bV) (aM [(160, bH, [(bH.res, bH.post)])]) false ae Tryz.f159 ze dh = true := by kernel_rfl
theorem Wp (hev : aG sh G) (hS : Safe kd ae G) (ag : TC Tryz.prog kd sh B G 146 aD) (ai : TC Tryz.prog kd sh B G 108 aF) (htop : TC Tryz.prog kd sh B G 156 bU) (dV : aV Tryz.prog kd sh B G 160 bH [(bH.res, bH.post)]) : aV Tryz.prog kd sh B G 159 ze dh := aB Tryz.func159 Wy (bR hev hS ag ai htop) (aL iK dV aJ) hev hS mixed
theorem VH : aP Tryz.prog kd aQ (ah bV) (aM [(160, bE, [(bE.res, bE.post)])]) false ae Tryz.f159 zq bA = true := by kernel_rfl
theorem U3 (hev : aG sh G) (hS : Safe kd ae G) (ag : TC Tryz.prog kd sh B G 146 aD) (ai : TC Tryz.prog kd sh B G 108 aF) (htop : TC Tryz.prog kd sh B G 156 bU) (dY : aV Tryz.prog kd sh B G 160 bE [(bE.res, bE.post)]) : aV Tryz.prog kd sh B G 159 zq bA := aB Tryz.func159 VH (bR hev hS ag ai htop) (aL iK dY aJ) hev hS mixed
theorem Vp : aP Tryz.prog kd aQ (ah bV) (aM [(160, bE, [(bE.res, bE.post)])]) false ae Tryz.f159 xS bA = true := by kernel_rfl
theorem Vr (hev : aG sh G) (hS : Safe kd ae G) (ag : TC Tryz.prog kd sh B G 146 aD) (ai : TC Tryz.prog kd sh B G 108 aF) (htop : TC Tryz.prog kd sh B G 156 bU) (dY : aV Tryz.prog kd sh B G 160 bE [(bE.res, bE.post)]) : aV Tryz.prog kd sh B G 159 xS bA := aB Tryz.func159 Vp (bR hev hS ag ai htop) (aL iK dY aJ) hev hS mixed
theorem U4 : aP Tryz.prog kd aQ (ah bV) (aM [(159, xu, bA)]) false ae Tryz.f110 zL bA = true := by kernel_rfl
theorem UG (hev : aG sh G) (hS : Safe kd ae G) (ag : TC Tryz.prog kd sh B G 146 aD) (ai : TC Tryz.prog kd sh B G 108 aF) (htop : TC Tryz.prog kd sh B G 156 bU) : aV Tryz.prog kd sh B G 110 zL bA := aB Tryz.func110 U4 (bR hev hS ag ai htop) (aL nu (Xe hev hS ag ai htop) aJ) hev hS mixed
theorem WY : aP Tryz.prog kd aQ (ah bV) (aM [(159, xJ, dh)]) false ae Tryz.f110 xR dh = true := by kernel_rfl
theorem U1 (hev : aG sh G) (hS : Safe kd ae G) (ag : TC Tryz.prog kd sh B G 146 aD) (ai : TC Tryz.prog kd sh B G 108 aF) (htop : TC Tryz.prog kd sh B G 156 bU) (dV : aV Tryz.prog kd sh B G 160 bH [(bH.res, bH.post)]) : aV Tryz.prog kd sh B G 110 xR dh := aB Tryz.func110 WY (bR hev hS ag ai htop) (aL nu (X0 hev hS ag ai htop dV) aJ) hev hS mixed
theorem XF : aP Tryz.prog kd aQ (ah bV) (aM [(159, ze, dh)]) false ae Tryz.f110 zk dh = true := by kernel_rfl
theorem Xx (hev : aG sh G) (hS : Safe kd ae G) (ag : TC Tryz.prog kd sh B G 146 aD) (ai : TC Tryz.prog kd sh B G 108 aF) (htop : TC Tryz.prog kd sh B G 156 bU) (dV : aV Tryz.prog kd sh B G 160 bH [(bH.res, bH.post)]) : aV Tryz.prog kd sh B G 110 zk dh := aB Tryz.func110 XF (bR hev hS ag ai htop) (aL nu (Wp hev hS ag ai htop dV) aJ) hev hS mixed
theorem UR : aP Tryz.prog kd aQ (ah bV) (aM [(159, zq, bA)]) false ae Tryz.f110 yE bA = true := by kernel_rfl
theorem XN (hev : aG sh G) (hS : Safe kd ae G) (ag : TC Tryz.prog kd sh B G 146 aD) (ai : TC Tryz.prog kd sh B G 108 aF) (htop : TC Tryz.prog kd sh B G 156 bU) (dY : aV Tryz.prog kd sh B G 160 bE [(bE.res, bE.post)]) : aV Tryz.prog kd sh B G 110 yE bA := aB Tryz.func110 UR (bR hev hS ag ai htop) (aL nu (U3 hev hS ag ai htop dY) aJ) hev hS mixed
theorem WK : aP Tryz.prog kd aQ (ah bV) (aM [(159, xS, bA)]) false ae Tryz.f110 x9 bA = true := by kernel_rfl
theorem Vd (hev : aG sh G) (hS : Safe kd ae G) (ag : TC Tryz.prog kd sh B G 146 aD) (ai : TC Tryz.prog kd sh B G 108 aF) (htop : TC Tryz.prog kd sh B G 156 bU) (dY : aV Tryz.prog kd sh B G 160 bE [(bE.res, bE.post)]) : aV Tryz.prog kd sh B G 110 x9 bA := aB Tryz.func110 WK (bR hev hS ag ai htop) (aL nu (Vr hev hS ag ai htop dY) aJ) hev hS mixed
theorem QR : aP Tryz.prog kd aQ (ah bV) (aM [(110, Dw, bA)]) false ae Tryz.f67 Fa bA = true := by kernel_rfl
theorem Q6 (hev : aG sh G) (hS : Safe kd ae G) (ag : TC Tryz.prog kd sh B G 146 aD) (ai : TC Tryz.prog kd sh B G 108 aF) (htop : TC Tryz.prog kd sh B G 156 bU) : aV Tryz.prog kd sh B G 67 Fa bA := aB Tryz.func67 QR (bR hev hS ag ai htop) (aL gU (Yn hev hS ag ai htop) aJ) hev hS mixed
theorem Rp : aP Tryz.prog kd aQ (ah bV) (aM [(110, DU, bA)]) false ae Tryz.f67 Er bA = true := by kernel_rfl
theorem Sd (hev : aG sh G) (hS : Safe kd ae G) (ag : TC Tryz.prog kd sh B G 146 aD) (ai : TC Tryz.prog kd sh B G 108 aF) (htop : TC Tryz.prog kd sh B G 156 bU) : aV Tryz.prog kd sh B G 67 Er bA := aB Tryz.func67 Rp (bR hev hS ag ai htop) (aL gU (abQ hev hS ag ai htop) aJ) hev hS mixed
theorem Ni : aP Tryz.prog kd aQ (ah bV) (aM [(110, xk, bA)]) false ae Tryz.f67 BG bA = true := by kernel_rfl
theorem PO (hev : aG sh G) (hS : Safe kd ae G) (ag : TC Tryz.prog kd sh B G 146 aD) (ai : TC Tryz.prog kd sh B G 108 aF) (htop : TC Tryz.prog kd sh B G 156 bU) : aV Tryz.prog kd sh B G 67 BG bA := aB Tryz.func67 Ni (bR hev hS ag ai htop) (aL gU (XU hev hS ag ai htop) aJ) hev hS mixed
theorem M3 : aP Tryz.prog kd aQ (ah bV) (aM [(110, yG, bA)]) false ae Tryz.f67 Bq bA = true := by kernel_rfl
theorem MU (hev : aG sh G) (hS : Safe kd ae G) (ag : TC Tryz.prog kd sh B G 146 aD) (ai : TC Tryz.prog kd sh B G 108 aF) (htop : TC Tryz.prog kd sh B G 156 bU) : aV Tryz.prog kd sh B G 67 Bq bA := aB Tryz.func67 M3 (bR hev hS ag ai htop) (aL gU (WJ hev hS ag ai htop) aJ) hev hS mixed
theorem Nr : aP Tryz.prog kd aQ (ah bV) (aM [(110, y7, bA)]) false ae Tryz.f67 Bn bA = true := by kernel_rfl
theorem OJ (hev : aG sh G) (hS : Safe kd ae G) (ag : TC Tryz.prog kd sh B G 146 aD) (ai : TC Tryz.prog kd sh B G 108 aF) (htop : TC Tryz.prog kd sh B G 156 bU) : aV Tryz.prog kd sh B G 67 Bn bA := aB Tryz.func67 Nr (bR hev hS ag ai htop) (aL gU (Xu hev hS ag ai htop) aJ) hev hS mixed
theorem Pb : aP Tryz.prog kd aQ (ah bV) (aM [(110, Ac, bA)]) false ae Tryz.f67 Bd bA = true := by kernel_rfl
theorem Ql (hev : aG sh G) (hS : Safe kd ae G) (ag : TC Tryz.prog kd sh B G 146 aD) (ai : TC Tryz.prog kd sh B G 108 aF) (htop : TC Tryz.prog kd sh B G 156 bU) : aV Tryz.prog kd sh B G 67 Bd bA := aB Tryz.func67 Pb (bR hev hS ag ai htop) (aL gU (Wx hev hS ag ai htop) aJ) hev hS mixed
theorem LU : aP Tryz.prog kd aQ (ah bV) (aM [(110, yg, bA)]) false ae Tryz.f67 BL bA = true := by kernel_rfl
theorem P6 (hev : aG sh G) (hS : Safe kd ae G) (ag : TC Tryz.prog kd sh B G 146 aD) (ai : TC Tryz.prog kd sh B G 108 aF) (htop : TC Tryz.prog kd sh B G 156 bU) : aV Tryz.prog kd sh B G 67 BL bA := aB Tryz.func67 LU (bR hev hS ag ai htop) (aL gU (XY hev hS ag ai htop) aJ) hev hS mixed
theorem MJ : aP Tryz.prog kd aQ (ah bV) (aM [(110, Ab, bA)]) false ae Tryz.f67 Br bA = true := by kernel_rfl
theorem Qm (hev : aG sh G) (hS : Safe kd ae G) (ag : TC Tryz.prog kd sh B G 146 aD) (ai : TC Tryz.prog kd sh B G 108 aF) (htop : TC Tryz.prog kd sh B G 156 bU) : aV Tryz.prog kd sh B G 67 Br bA := aB Tryz.func67 MJ (bR hev hS ag ai htop) (aL gU (XP hev hS ag ai htop) aJ) hev hS mixed
theorem Py : aP Tryz.prog kd aQ (ah bV) (aM [(110, zL, bA)]) false ae Tryz.f67 Bc bA = true := by kernel_rfl
theorem MP (hev : aG sh G) (hS : Safe kd ae G) (ag : TC Tryz.prog kd sh B G 146 aD) (ai : TC Tryz.prog kd sh B G 108 aF) (htop : TC Tryz.prog kd sh B G 156 bU) : aV Tryz.prog kd sh B G 67 Bc bA := aB Tryz.func67 Py (bR hev hS ag ai htop) (aL gU (UG hev hS ag ai htop) aJ) hev hS mixed
theorem Nv : aP Tryz.prog kd aQ (ah bV) (aM [(110, xR, dh)]) false ae Tryz.f67 Bo dh = true := by kernel_rfl
theorem Pw (hev : aG sh G) (hS : Safe kd ae G) (ag : TC Tryz.prog kd sh B G 146 aD) (ai : TC Tryz.prog kd sh B G 108 aF) (htop : TC Tryz.prog kd sh B G 156 bU) (dV : aV Tryz.prog kd sh B G 160 bH [(bH.res, bH.post)]) : aV Tryz.prog kd sh B G 67 Bo dh := aB Tryz.func67 Nv (bR hev hS ag ai htop) (aL gU (U1 hev hS ag ai htop dV) aJ) hev hS mixed
theorem Oq : aP Tryz.prog kd aQ (ah bV) (aM [(110, zk, dh)]) false ae Tryz.f67 Bz dh = true := by kernel_rfl
theorem Pq (hev : aG sh G) (hS : Safe kd ae G) (ag : TC Tryz.prog kd sh B G 146 aD) (ai : TC Tryz.prog kd sh B G 108 aF) (htop : TC Tryz.prog kd sh B G 156 bU) (dV : aV Tryz.prog kd sh B G 160 bH [(bH.res, bH.post)]) : aV Tryz.prog kd sh B G 67 Bz dh := aB Tryz.func67 Oq (bR hev hS ag ai htop) (aL gU (Xx hev hS ag ai htop dV) aJ) hev hS mixed
theorem PK : aP Tryz.prog kd aQ (ah bV) (aM [(110, yE, bA)]) false ae Tryz.f67 Bl bA = true := by kernel_rfl
theorem Qg (hev : aG sh G) (hS : Safe kd ae G) (ag : TC Tryz.prog kd sh B G 146 aD) (ai : TC Tryz.prog kd sh B G 108 aF) (htop : TC Tryz.prog kd sh B G 156 bU) (dY : aV Tryz.prog kd sh B G 160 bE [(bE.res, bE.post)]) : aV Tryz.prog kd sh B G 67 Bl bA := aB Tryz.func67 PK (bR hev hS ag ai htop) (aL gU (XN hev hS ag ai htop dY) aJ) hev hS mixed
theorem Qs : aP Tryz.prog kd aQ (ah bV) (aM [(110, x9, bA)]) false ae Tryz.f67 Bf bA = true := by kernel_rfl
theorem Px (hev : aG sh G) (hS : Safe kd ae G) (ag : TC Tryz.prog kd sh B G 146 aD) (ai : TC Tryz.prog kd sh B G 108 aF) (htop : TC Tryz.prog kd sh B G 156 bU) (dY : aV Tryz.prog kd sh B G 160 bE [(bE.res, bE.post)]) : aV Tryz.prog kd sh B G 67 Bf bA := aB Tryz.func67 Qs (bR hev hS ag ai htop) (aL gU (Vd hev hS ag ai htop dY) aJ) hev hS mixed
end
section
variable {sh : Sh} {B : Nat} {G : World → Prop}
theorem SV : aP Tryz.prog kd aQ (ah bu) (aM [(95, bS, [(bS.res, bS.post)])]) false ae Tryz.f111 wI fC = true := by kernel_rfl
theorem Sv (hev : aG sh G) (hS : Safe kd ae G) (ag : TC Tryz.prog kd sh B G 146 aD) (ai : TC Tryz.prog kd sh B G 108 aF) : aV Tryz.prog kd sh B G 111 wI fC := aB Tryz.func111 SV (aX hev hS ag ai) (aL fG (fH hev hS) aJ) hev hS mixed
theorem aeD : aP Tryz.prog kd aQ (ah bu) (aM [(111, wI, fC)]) false ae Tryz.f67 Ht fC = true := by kernel_rfl
theorem acF (hev : aG sh G) (hS : Safe kd ae G) (ag : TC Tryz.prog kd sh B G 146 aD) (ai : TC Tryz.prog kd sh B G 108 aF) : aV Tryz.prog kd sh B G 67 Ht fC := aB Tryz.func67 aeD (aX hev hS ag ai) (aL Bj (Sv hev hS ag ai) aJ) hev hS mixed
theorem Sl : aP Tryz.prog kd aQ (ah bu) (aM [(95, bS, [(bS.res, bS.post)])]) false ae Tryz.f111 je [(je.res, je.post)] = true := by kernel_rfl
theorem RS (hev : aG sh G) (hS : Safe kd ae G) (ag : TC Tryz.prog kd sh B G 146 aD) (ai : TC Tryz.prog kd sh B G 108 aF) : aV Tryz.prog kd sh B G 111 je [(je.res, je.post)] := aB Tryz.func111 Sl (aX hev hS ag ai) (aL fG (fH hev hS) aJ) hev hS mixed
theorem XD : aP Tryz.prog kd aQ (ah bu) (aM [(111, je, [(je.res, je.post)])]) false ae Tryz.f67 mM [(mM.res, mM.post)] = true := by kernel_rfl
theorem XX (hev : aG sh G) (hS : Safe kd ae G) (ag : TC Tryz.prog kd sh B G 146 aD) (ai : TC Tryz.prog kd sh B G 108 aF) : aV Tryz.prog kd sh B G 67 mM [(mM.res, mM.post)] := aB Tryz.func67 XD (aX hev hS ag ai) (aL Bj (RS hev hS ag ai) aJ) hev hS mixed
theorem RH : aP Tryz.prog kd aQ (ah bu) (aM [(95, bS, [(bS.res, bS.post)])]) false ae Tryz.f161 oN fC = true := by kernel_rfl
theorem uL (hev : aG sh G) (hS : Safe kd ae G) (ag : TC Tryz.prog kd sh B G 146 aD) (ai : TC Tryz.prog kd sh B G 108 aF) : aV Tryz.prog kd sh B G 161 oN fC := aB Tryz.func161 RH (aX hev hS ag ai) (aL fG (fH hev hS) aJ) hev hS mixed
theorem afc : aP Tryz.prog kd aQ (ah bu) (aM [(161, oN, fC), (95, bS, [(bS.res, bS.post)])]) false ae Tryz.f118 IU fC = true := by kernel_rfl
theorem ac5 (hev : aG sh G) (hS : Safe kd ae G) (ag : TC Tryz.prog kd sh B G 146 aD) (ai : TC Tryz.prog kd sh B G 108 aF) : aV Tryz.prog kd sh B G 118 IU fC := aB Tryz.func118 afc (aX hev hS ag ai) (aL mV (uL hev hS ag ai) (aL fG (fH hev hS) aJ)) hev hS mixed
theorem YW : aP Tryz.prog kd aQ (ah bu) (aM [(161, oN, fC), (95, bS, [(bS.res, bS.post)])]) false ae Tryz.f118 BP fC = true := by kernel_rfl
theorem aar (hev : aG sh G) (hS : Safe kd ae G) (ag : TC Tryz.prog kd sh B G 146 aD) (ai : TC Tryz.prog kd sh B G 108 aF) : aV Tryz.prog kd sh B G 118 BP fC := aB Tryz.func118 YW (aX hev hS ag ai) (aL mV (uL hev hS ag ai) (aL fG (fH hev hS) aJ)) hev hS mixed
theorem afd : aP Tryz.prog kd aQ (ah bu) (aM [(161, oN, fC), (95, bS, [(bS.res, bS.post)])]) false ae Tryz.f118 Iq fC = true := by kernel_rfl
theorem adm (hev : aG sh G) (hS : Safe kd ae G) (ag : TC Tryz.prog kd sh B G 146 aD) (ai : TC Tryz.prog kd sh B G 108 aF) : aV Tryz.prog kd sh B G 118 Iq fC := aB Tryz.func118 afd (aX hev hS ag ai) (aL mV (uL hev hS ag ai) (aL fG (fH hev hS) aJ)) hev hS mixed
theorem UU : aP Tryz.prog kd aQ (ah bu) (aM [(118, IU, fC)]) false ae Tryz.f68 yR fC = true := by kernel_rfl
theorem X7 (hev : aG sh G) (hS : Safe kd ae G) (ag : TC Tryz.prog kd sh B G 146 aD) (ai : TC Tryz.prog kd sh B G 108 aF) : aV Tryz.prog kd sh B G 68 yR fC := aB Tryz.func68 UU (aX hev hS ag ai) (aL pM (ac5 hev hS ag ai) aJ) hev hS mixed
theorem R7 : aP Tryz.prog kd aQ (ah bu) (aM [(118, BP, fC)]) false ae Tryz.f68 vJ fC = true := by kernel_rfl
theorem Re (hev : aG sh G) (hS : Safe kd ae G) (ag : TC Tryz.prog kd sh B G 146 aD) (ai : TC Tryz.prog kd sh B G 108 aF) : aV Tryz.prog kd sh B G 68 vJ fC := aB Tryz.func68 R7 (aX hev hS ag ai) (aL pM (aar hev hS ag ai) aJ) hev hS mixed
theorem WN : aP Tryz.prog kd aQ (ah bu) (aM [(118, Iq, fC)]) false ae Tryz.f68 zh fC = true := by kernel_rfl
theorem VV (hev : aG sh G) (hS : Safe kd ae G) (ag : TC Tryz.prog kd sh B G 146 aD) (ai : TC Tryz.prog kd sh B G 108 aF) : aV Tryz.prog kd sh B G 68 zh fC := aB Tryz.func68 WN (aX hev hS ag ai) (aL pM (adm hev hS ag ai) aJ) hev hS mixed
end
end Go.Proofs.YtncnepmgmphanaaGreatDoor
