/- Contracts by types of the reference engine, with their ways out, part B (printed by gen_tc3.py). No condition beside those named. -/
import Derived.Test.YtncnepmgmphanaaGreatDoorTcRun
import Derived.Test.YtncnepmgmphanaaGreatDoorTcRunK
import Derived.Test.YtncnepmgmphanaaGreatDoorMg10
import Derived.Test.YtncnepmgmphanaaGreatDoorTcR
import Derived.Test.YtncnepmgmphanaaGreatDoorTcFns
set_option linter.unusedVariables false
set_option linter.unusedSimpArgs false
set_option linter.unusedSectionVars false
namespace Go.Proofs.YtncnepmgmphanaaGreatDoor
variable {sh : Sh} {B : Nat} {G : World → Prop}
theorem chk_bkr6A : fnChkR Tryz.prog kd evE (ftLook ft_top) (faLook []) false prot Tryz.f116 sg_bkr6A altsU = true := by kernel_rfl
theorem tca_bkr6A (hev : EvG sh G) (hS : Safe kd prot G) (hclaim : TC Tryz.prog kd sh B G 146 sg_claim) (hprobe : TC Tryz.prog kd sh B G 108 sg_probe) (htop : TC Tryz.prog kd sh B G 156 sg_top) : TCa Tryz.prog kd sh B G 116 sg_bkr6A altsU := fn_soundR Tryz.func116 chk_bkr6A (hft_top hev hS hclaim hprobe htop) hfa_nil hev hS mixed
theorem chk_bkr7A : fnChkR Tryz.prog kd evE (ftLook ft_top) (faLook []) false prot Tryz.f116 sg_bkr7A altsU = true := by kernel_rfl
theorem tca_bkr7A (hev : EvG sh G) (hS : Safe kd prot G) (hclaim : TC Tryz.prog kd sh B G 146 sg_claim) (hprobe : TC Tryz.prog kd sh B G 108 sg_probe) (htop : TC Tryz.prog kd sh B G 156 sg_top) : TCa Tryz.prog kd sh B G 116 sg_bkr7A altsU := fn_soundR Tryz.func116 chk_bkr7A (hft_top hev hS hclaim hprobe htop) hfa_nil hev hS mixed
theorem chk_bkr8A : fnChkR Tryz.prog kd evE (ftLook ft_top) (faLook []) false prot Tryz.f116 sg_bkr8A altsU = true := by kernel_rfl
theorem tca_bkr8A (hev : EvG sh G) (hS : Safe kd prot G) (hclaim : TC Tryz.prog kd sh B G 146 sg_claim) (hprobe : TC Tryz.prog kd sh B G 108 sg_probe) (htop : TC Tryz.prog kd sh B G 156 sg_top) : TCa Tryz.prog kd sh B G 116 sg_bkr8A altsU := fn_soundR Tryz.func116 chk_bkr8A (hft_top hev hS hclaim hprobe htop) hfa_nil hev hS mixed
theorem chk_bkr20A : fnChkR Tryz.prog kd evE (ftLook ft_top) (faLook []) false prot Tryz.f116 sg_bkr20A altsU = true := by kernel_rfl
theorem tca_bkr20A (hev : EvG sh G) (hS : Safe kd prot G) (hclaim : TC Tryz.prog kd sh B G 146 sg_claim) (hprobe : TC Tryz.prog kd sh B G 108 sg_probe) (htop : TC Tryz.prog kd sh B G 156 sg_top) : TCa Tryz.prog kd sh B G 116 sg_bkr20A altsU := fn_soundR Tryz.func116 chk_bkr20A (hft_top hev hS hclaim hprobe htop) hfa_nil hev hS mixed
theorem chk_bkr9A : fnChkR Tryz.prog kd evE (ftLook ft_top) (faLook []) false prot Tryz.f116 sg_bkr9A altsU = true := by kernel_rfl
theorem tca_bkr9A (hev : EvG sh G) (hS : Safe kd prot G) (hclaim : TC Tryz.prog kd sh B G 146 sg_claim) (hprobe : TC Tryz.prog kd sh B G 108 sg_probe) (htop : TC Tryz.prog kd sh B G 156 sg_top) : TCa Tryz.prog kd sh B G 116 sg_bkr9A altsU := fn_soundR Tryz.func116 chk_bkr9A (hft_top hev hS hclaim hprobe htop) hfa_nil hev hS mixed
theorem chk_bkr140 : fnChkR Tryz.prog kd evE (ftLook ft_top) (faLook [(160, sg_leave0, [(sg_leave0.res, sg_leave0.post)])]) false prot Tryz.f116 sg_bkr140 altsU0 = true := by kernel_rfl
theorem tca_bkr140 (hev : EvG sh G) (hS : Safe kd prot G) (hclaim : TC Tryz.prog kd sh B G 146 sg_claim) (hprobe : TC Tryz.prog kd sh B G 108 sg_probe) (htop : TC Tryz.prog kd sh B G 156 sg_top) (hleave0 : TCa Tryz.prog kd sh B G 160 sg_leave0 [(sg_leave0.res, sg_leave0.post)]) : TCa Tryz.prog kd sh B G 116 sg_bkr140 altsU0 := fn_soundR Tryz.func116 chk_bkr140 (hft_top hev hS hclaim hprobe htop) (hfa_cons call_leave hleave0 hfa_nil) hev hS mixed
theorem chk_bkr210 : fnChkR Tryz.prog kd evE (ftLook ft_top) (faLook [(160, sg_leave0, [(sg_leave0.res, sg_leave0.post)])]) false prot Tryz.f116 sg_bkr210 altsU0 = true := by kernel_rfl
theorem tca_bkr210 (hev : EvG sh G) (hS : Safe kd prot G) (hclaim : TC Tryz.prog kd sh B G 146 sg_claim) (hprobe : TC Tryz.prog kd sh B G 108 sg_probe) (htop : TC Tryz.prog kd sh B G 156 sg_top) (hleave0 : TCa Tryz.prog kd sh B G 160 sg_leave0 [(sg_leave0.res, sg_leave0.post)]) : TCa Tryz.prog kd sh B G 116 sg_bkr210 altsU0 := fn_soundR Tryz.func116 chk_bkr210 (hft_top hev hS hclaim hprobe htop) (hfa_cons call_leave hleave0 hfa_nil) hev hS mixed
theorem chk_bkr220 : fnChkR Tryz.prog kd evE (ftLook ft_top) (faLook [(160, sg_leave0, [(sg_leave0.res, sg_leave0.post)])]) false prot Tryz.f116 sg_bkr220 altsU0 = true := by kernel_rfl
theorem tca_bkr220 (hev : EvG sh G) (hS : Safe kd prot G) (hclaim : TC Tryz.prog kd sh B G 146 sg_claim) (hprobe : TC Tryz.prog kd sh B G 108 sg_probe) (htop : TC Tryz.prog kd sh B G 156 sg_top) (hleave0 : TCa Tryz.prog kd sh B G 160 sg_leave0 [(sg_leave0.res, sg_leave0.post)]) : TCa Tryz.prog kd sh B G 116 sg_bkr220 altsU0 := fn_soundR Tryz.func116 chk_bkr220 (hft_top hev hS hclaim hprobe htop) (hfa_cons call_leave hleave0 hfa_nil) hev hS mixed
theorem chk_bkr14N : fnChkR Tryz.prog kd evE (ftLook ft_top) (faLook [(160, sg_leaveN, [(sg_leaveN.res, sg_leaveN.post)])]) false prot Tryz.f116 sg_bkr14N altsU = true := by kernel_rfl
theorem tca_bkr14N (hev : EvG sh G) (hS : Safe kd prot G) (hclaim : TC Tryz.prog kd sh B G 146 sg_claim) (hprobe : TC Tryz.prog kd sh B G 108 sg_probe) (htop : TC Tryz.prog kd sh B G 156 sg_top) (hleaveN : TCa Tryz.prog kd sh B G 160 sg_leaveN [(sg_leaveN.res, sg_leaveN.post)]) : TCa Tryz.prog kd sh B G 116 sg_bkr14N altsU := fn_soundR Tryz.func116 chk_bkr14N (hft_top hev hS hclaim hprobe htop) (hfa_cons call_leave hleaveN hfa_nil) hev hS mixed
theorem chk_bkr21N : fnChkR Tryz.prog kd evE (ftLook ft_top) (faLook [(160, sg_leaveN, [(sg_leaveN.res, sg_leaveN.post)])]) false prot Tryz.f116 sg_bkr21N altsU = true := by kernel_rfl
theorem tca_bkr21N (hev : EvG sh G) (hS : Safe kd prot G) (hclaim : TC Tryz.prog kd sh B G 146 sg_claim) (hprobe : TC Tryz.prog kd sh B G 108 sg_probe) (htop : TC Tryz.prog kd sh B G 156 sg_top) (hleaveN : TCa Tryz.prog kd sh B G 160 sg_leaveN [(sg_leaveN.res, sg_leaveN.post)]) : TCa Tryz.prog kd sh B G 116 sg_bkr21N altsU := fn_soundR Tryz.func116 chk_bkr21N (hft_top hev hS hclaim hprobe htop) (hfa_cons call_leave hleaveN hfa_nil) hev hS mixed
theorem chk_bkr22N : fnChkR Tryz.prog kd evE (ftLook ft_top) (faLook [(160, sg_leaveN, [(sg_leaveN.res, sg_leaveN.post)])]) false prot Tryz.f116 sg_bkr22N altsU = true := by kernel_rfl
theorem tca_bkr22N (hev : EvG sh G) (hS : Safe kd prot G) (hclaim : TC Tryz.prog kd sh B G 146 sg_claim) (hprobe : TC Tryz.prog kd sh B G 108 sg_probe) (htop : TC Tryz.prog kd sh B G 156 sg_top) (hleaveN : TCa Tryz.prog kd sh B G 160 sg_leaveN [(sg_leaveN.res, sg_leaveN.post)]) : TCa Tryz.prog kd sh B G 116 sg_bkr22N altsU := fn_soundR Tryz.func116 chk_bkr22N (hft_top hev hS hclaim hprobe htop) (hfa_cons call_leave hleaveN hfa_nil) hev hS mixed
theorem chk_bk24_6A : fnChkR Tryz.prog kd evE (ftLook ft_top) (faLook [(116, sg_bkr6A, altsU)]) false prot Tryz.f68 sg_bk24_6A altsU = true := by kernel_rfl
theorem tca_bk24_6A (hev : EvG sh G) (hS : Safe kd prot G) (hclaim : TC Tryz.prog kd sh B G 146 sg_claim) (hprobe : TC Tryz.prog kd sh B G 108 sg_probe) (htop : TC Tryz.prog kd sh B G 156 sg_top) : TCa Tryz.prog kd sh B G 68 sg_bk24_6A altsU := fn_soundR Tryz.func68 chk_bk24_6A (hft_top hev hS hclaim hprobe htop) (hfa_cons call_backRun (tca_bkr6A hev hS hclaim hprobe htop) hfa_nil) hev hS mixed
theorem chk_bk24_7A : fnChkR Tryz.prog kd evE (ftLook ft_top) (faLook [(116, sg_bkr7A, altsU)]) false prot Tryz.f68 sg_bk24_7A altsU = true := by kernel_rfl
theorem tca_bk24_7A (hev : EvG sh G) (hS : Safe kd prot G) (hclaim : TC Tryz.prog kd sh B G 146 sg_claim) (hprobe : TC Tryz.prog kd sh B G 108 sg_probe) (htop : TC Tryz.prog kd sh B G 156 sg_top) : TCa Tryz.prog kd sh B G 68 sg_bk24_7A altsU := fn_soundR Tryz.func68 chk_bk24_7A (hft_top hev hS hclaim hprobe htop) (hfa_cons call_backRun (tca_bkr7A hev hS hclaim hprobe htop) hfa_nil) hev hS mixed
theorem chk_bk24_8A : fnChkR Tryz.prog kd evE (ftLook ft_top) (faLook [(116, sg_bkr8A, altsU)]) false prot Tryz.f68 sg_bk24_8A altsU = true := by kernel_rfl
theorem tca_bk24_8A (hev : EvG sh G) (hS : Safe kd prot G) (hclaim : TC Tryz.prog kd sh B G 146 sg_claim) (hprobe : TC Tryz.prog kd sh B G 108 sg_probe) (htop : TC Tryz.prog kd sh B G 156 sg_top) : TCa Tryz.prog kd sh B G 68 sg_bk24_8A altsU := fn_soundR Tryz.func68 chk_bk24_8A (hft_top hev hS hclaim hprobe htop) (hfa_cons call_backRun (tca_bkr8A hev hS hclaim hprobe htop) hfa_nil) hev hS mixed
theorem chk_bk24_20A : fnChkR Tryz.prog kd evE (ftLook ft_top) (faLook [(116, sg_bkr20A, altsU)]) false prot Tryz.f68 sg_bk24_20A altsU = true := by kernel_rfl
theorem tca_bk24_20A (hev : EvG sh G) (hS : Safe kd prot G) (hclaim : TC Tryz.prog kd sh B G 146 sg_claim) (hprobe : TC Tryz.prog kd sh B G 108 sg_probe) (htop : TC Tryz.prog kd sh B G 156 sg_top) : TCa Tryz.prog kd sh B G 68 sg_bk24_20A altsU := fn_soundR Tryz.func68 chk_bk24_20A (hft_top hev hS hclaim hprobe htop) (hfa_cons call_backRun (tca_bkr20A hev hS hclaim hprobe htop) hfa_nil) hev hS mixed
theorem chk_bk24_9A : fnChkR Tryz.prog kd evE (ftLook ft_top) (faLook [(116, sg_bkr9A, altsU)]) false prot Tryz.f68 sg_bk24_9A altsU = true := by kernel_rfl
theorem tca_bk24_9A (hev : EvG sh G) (hS : Safe kd prot G) (hclaim : TC Tryz.prog kd sh B G 146 sg_claim) (hprobe : TC Tryz.prog kd sh B G 108 sg_probe) (htop : TC Tryz.prog kd sh B G 156 sg_top) : TCa Tryz.prog kd sh B G 68 sg_bk24_9A altsU := fn_soundR Tryz.func68 chk_bk24_9A (hft_top hev hS hclaim hprobe htop) (hfa_cons call_backRun (tca_bkr9A hev hS hclaim hprobe htop) hfa_nil) hev hS mixed
theorem chk_bk24_140 : fnChkR Tryz.prog kd evE (ftLook ft_top) (faLook [(116, sg_bkr140, altsU0)]) false prot Tryz.f68 sg_bk24_140 altsU0 = true := by kernel_rfl
theorem tca_bk24_140 (hev : EvG sh G) (hS : Safe kd prot G) (hclaim : TC Tryz.prog kd sh B G 146 sg_claim) (hprobe : TC Tryz.prog kd sh B G 108 sg_probe) (htop : TC Tryz.prog kd sh B G 156 sg_top) (hleave0 : TCa Tryz.prog kd sh B G 160 sg_leave0 [(sg_leave0.res, sg_leave0.post)]) : TCa Tryz.prog kd sh B G 68 sg_bk24_140 altsU0 := fn_soundR Tryz.func68 chk_bk24_140 (hft_top hev hS hclaim hprobe htop) (hfa_cons call_backRun (tca_bkr140 hev hS hclaim hprobe htop hleave0) hfa_nil) hev hS mixed
theorem chk_bk24_210 : fnChkR Tryz.prog kd evE (ftLook ft_top) (faLook [(116, sg_bkr210, altsU0)]) false prot Tryz.f68 sg_bk24_210 altsU0 = true := by kernel_rfl
theorem tca_bk24_210 (hev : EvG sh G) (hS : Safe kd prot G) (hclaim : TC Tryz.prog kd sh B G 146 sg_claim) (hprobe : TC Tryz.prog kd sh B G 108 sg_probe) (htop : TC Tryz.prog kd sh B G 156 sg_top) (hleave0 : TCa Tryz.prog kd sh B G 160 sg_leave0 [(sg_leave0.res, sg_leave0.post)]) : TCa Tryz.prog kd sh B G 68 sg_bk24_210 altsU0 := fn_soundR Tryz.func68 chk_bk24_210 (hft_top hev hS hclaim hprobe htop) (hfa_cons call_backRun (tca_bkr210 hev hS hclaim hprobe htop hleave0) hfa_nil) hev hS mixed
theorem chk_bk24_220 : fnChkR Tryz.prog kd evE (ftLook ft_top) (faLook [(116, sg_bkr220, altsU0)]) false prot Tryz.f68 sg_bk24_220 altsU0 = true := by kernel_rfl
theorem tca_bk24_220 (hev : EvG sh G) (hS : Safe kd prot G) (hclaim : TC Tryz.prog kd sh B G 146 sg_claim) (hprobe : TC Tryz.prog kd sh B G 108 sg_probe) (htop : TC Tryz.prog kd sh B G 156 sg_top) (hleave0 : TCa Tryz.prog kd sh B G 160 sg_leave0 [(sg_leave0.res, sg_leave0.post)]) : TCa Tryz.prog kd sh B G 68 sg_bk24_220 altsU0 := fn_soundR Tryz.func68 chk_bk24_220 (hft_top hev hS hclaim hprobe htop) (hfa_cons call_backRun (tca_bkr220 hev hS hclaim hprobe htop hleave0) hfa_nil) hev hS mixed
theorem chk_bk24_14N : fnChkR Tryz.prog kd evE (ftLook ft_top) (faLook [(116, sg_bkr14N, altsU)]) false prot Tryz.f68 sg_bk24_14N altsU = true := by kernel_rfl
theorem tca_bk24_14N (hev : EvG sh G) (hS : Safe kd prot G) (hclaim : TC Tryz.prog kd sh B G 146 sg_claim) (hprobe : TC Tryz.prog kd sh B G 108 sg_probe) (htop : TC Tryz.prog kd sh B G 156 sg_top) (hleaveN : TCa Tryz.prog kd sh B G 160 sg_leaveN [(sg_leaveN.res, sg_leaveN.post)]) : TCa Tryz.prog kd sh B G 68 sg_bk24_14N altsU := fn_soundR Tryz.func68 chk_bk24_14N (hft_top hev hS hclaim hprobe htop) (hfa_cons call_backRun (tca_bkr14N hev hS hclaim hprobe htop hleaveN) hfa_nil) hev hS mixed
theorem chk_bk24_21N : fnChkR Tryz.prog kd evE (ftLook ft_top) (faLook [(116, sg_bkr21N, altsU)]) false prot Tryz.f68 sg_bk24_21N altsU = true := by kernel_rfl
theorem tca_bk24_21N (hev : EvG sh G) (hS : Safe kd prot G) (hclaim : TC Tryz.prog kd sh B G 146 sg_claim) (hprobe : TC Tryz.prog kd sh B G 108 sg_probe) (htop : TC Tryz.prog kd sh B G 156 sg_top) (hleaveN : TCa Tryz.prog kd sh B G 160 sg_leaveN [(sg_leaveN.res, sg_leaveN.post)]) : TCa Tryz.prog kd sh B G 68 sg_bk24_21N altsU := fn_soundR Tryz.func68 chk_bk24_21N (hft_top hev hS hclaim hprobe htop) (hfa_cons call_backRun (tca_bkr21N hev hS hclaim hprobe htop hleaveN) hfa_nil) hev hS mixed
theorem chk_bk24_22N : fnChkR Tryz.prog kd evE (ftLook ft_top) (faLook [(116, sg_bkr22N, altsU)]) false prot Tryz.f68 sg_bk24_22N altsU = true := by kernel_rfl
theorem tca_bk24_22N (hev : EvG sh G) (hS : Safe kd prot G) (hclaim : TC Tryz.prog kd sh B G 146 sg_claim) (hprobe : TC Tryz.prog kd sh B G 108 sg_probe) (htop : TC Tryz.prog kd sh B G 156 sg_top) (hleaveN : TCa Tryz.prog kd sh B G 160 sg_leaveN [(sg_leaveN.res, sg_leaveN.post)]) : TCa Tryz.prog kd sh B G 68 sg_bk24_22N altsU := fn_soundR Tryz.func68 chk_bk24_22N (hft_top hev hS hclaim hprobe htop) (hfa_cons call_backRun (tca_bkr22N hev hS hclaim hprobe htop hleaveN) hfa_nil) hev hS mixed
theorem chk_bkr22G : fnChkR Tryz.prog kd evE (ftLook ft_topV) (faLook []) false prot Tryz.f116 sg_bkr22G [altO] = true := by kernel_rfl
theorem tca_bkr22G (hev : EvG sh G) (hS : Safe kd prot G) (hclaim : TC Tryz.prog kd sh B G 146 sg_claim) (hprobe : TC Tryz.prog kd sh B G 108 sg_probe) (htopV : TC Tryz.prog kd sh B G 156 sg_topV) : TCa Tryz.prog kd sh B G 116 sg_bkr22G [altO] := fn_soundR Tryz.func116 chk_bkr22G (hft_cons call_top htopV (hft_probe hev hS hclaim hprobe)) hfa_nil hev hS mixed
theorem chk_bk24_22G : fnChkR Tryz.prog kd evE (ftLook ft_topV) (faLook [(116, sg_bkr22G, [altO])]) false prot Tryz.f68 sg_bk24_22G [altO] = true := by kernel_rfl
theorem tca_bk24_22G (hev : EvG sh G) (hS : Safe kd prot G) (hclaim : TC Tryz.prog kd sh B G 146 sg_claim) (hprobe : TC Tryz.prog kd sh B G 108 sg_probe) (htopV : TC Tryz.prog kd sh B G 156 sg_topV) : TCa Tryz.prog kd sh B G 68 sg_bk24_22G [altO] := fn_soundR Tryz.func68 chk_bk24_22G (hft_cons call_top htopV (hft_probe hev hS hclaim hprobe)) (hfa_cons call_backRun (tca_bkr22G hev hS hclaim hprobe htopV) hfa_nil) hev hS mixed
end Go.Proofs.YtncnepmgmphanaaGreatDoor

namespace Go.Proofs.YtncnepmgmphanaaGreatDoor
open Go.RowKit
variable {sh : Sh} {B : Nat} {G : World → Prop}
theorem szF : kd.sz 118 = 18 := by kernel_rfl
theorem sl_cut {N : Nat} {w : World} {E s b n m cap : Nat} (h : CellOK w B N (.sl E s) (.slice (some ⟨b, 0, none⟩) n cap)) (hm : m ≤ n) : CellOK w B N (.sl E s) (.slice (some ⟨b, 0, none⟩) m cap) := by
  obtain ⟨n', xs, hn, hl, ⟨h, -⟩ | ⟨b', cap', cur, h, h1, h2, h3, h4, h5, h6⟩⟩ := h
  · cases h
  · cases h
    refine ⟨m, cur.toList.take (m * s), by omega, ?_, .inr ⟨b, cap, cur, rfl, h1, h2, by omega, h4, h5, rfl⟩⟩
    have := Nat.mul_le_mul_right s (show m ≤ cap by omega)
    rw [List.length_take, Array.length_toList]
    omega
structure ShV (sh : Sh) (lb n cap : Nat) : Prop where
  v0 : sh.vals 0 = .slice (some ⟨lb, 0, none⟩) (n + 1) cap
  v1 : sh.vals 1 = .slice (some ⟨lb, 0, none⟩) n cap
theorem leave_pre {lb n cap N : Nat} {w : World} {args : Array Value} {s : FSig} (hV : ShV sh lb n cap) (hN : N ≤ 68719476736) (hps : s.ps = [.ptr 118 0 (.par 0)]) (hpr : s.pre = [((0, 118, 17), .val 0)]) (ha : args.size = s.ps.length) (hw : WT kd.sig B N w) (hp : ∀ (i : Nat) (t : AT), s.ps[i]? = some t → ∃ v, args[i]? = some v ∧ ATok kd (cxOf kd sh s args w) w B N t v) (hpre : HOK kd (cxOf kd sh s args w) w B N s.pre) :
    ∃ fb r f, args = #[.pointer (some ⟨fb, r * 18, none⟩)] ∧ (cxOf kd sh s args w).ps 0 = (fb, r) ∧ fb < w.heap.size ∧ w.heap[fb]? = some (.cells f 118 (0, 0)) ∧ B ≤ fb ∧ (r + 1) * 18 ≤ f.size ∧ w.cell? ⟨fb, r * 18 + 17, none⟩ = some (.slice (some ⟨lb, 0, none⟩) (n + 1) cap) ∧ (∃ ln, w.cell? ⟨fb, r * 18 + 1, none⟩ = some (.int .i64 ln)) ∧ n + 1 ≤ cap ∧ n ≤ 68719476736 ∧ CellOK w B N (.sl 3 1) (.slice (some ⟨lb, 0, none⟩) n cap) := by
  rw [hps] at ha
  obtain ⟨a, rfl⟩ := args1 ha
  obtain ⟨fb, r, rfl, -, ⟨f, hf1, hf2, hf3⟩, hps', hfb⟩ := arg_at hp (i := 0) (by rw [hps]; rfl) rfl
  rw [hpr] at hpre
  obtain ⟨-, -, -, v, h4, h5⟩ := hpre 0 118 17 (.val 0) rfl
  rw [hps'] at h4
  have h5' : v = sh.vals 0 := h5
  rw [szF] at hf3 h4
  rw [h5', hV.v0] at h4
  have kF : kd.sig 118 = some cs_r08_Frame := by kernel_rfl
  obtain ⟨v17, q17, o17⟩ := row_cell hw kF hf1 hf2 (i := r * 18 + 17) (j := 17) (by omega) (by show (r * 18 + 17) % 18 = 17; omega) rfl
  obtain ⟨_, q1, ln, rfl, -⟩ := row_cell hw kF hf1 hf2 (i := r * 18 + 1) (j := 1) (by omega) (by show (r * 18 + 1) % 18 = 1; omega) rfl
  rw [show w.cell? ⟨fb, r * 18 + 17, none⟩ = some (.slice (some ⟨lb, 0, none⟩) (n + 1) cap) from h4] at q17
  cases q17
  have hcn : n + 1 ≤ cap ∧ n ≤ N := by
    rcases sl_blk o17 with h | ⟨b, n', c, cur, h, -, -, h3, -, h2⟩
    · cases h
    · cases h; exact ⟨h3, by omega⟩
  exact ⟨fb, r, f, by rw [szF]; rfl, hps', hfb, hf2, hf1, hf3, h4, ⟨ln, q1⟩, hcn.1, by omega, sl_cut o17 (by omega)⟩
theorem leave_eff {N : Nat} {w w' : World} {fb r : Nat} {S : Value} {s : FSig} {args : Array Value} (h : LeaveOK B N w w' fb (r * 18) S) (hps : (cxOf kd sh s args w).ps 0 = (fb, r)) (hE : s.eff = [.par 0 118 1, .par 0 118 17]) {f : Array Value} (hF : w.heap[fb]? = some (.cells f 118 (0, 0))) (hBf : B ≤ fb) : Eff (ChOf B kd (cxOf kd sh s args w) s.eff) w w' := by
  refine h.eff.monoT fun k c T f' j hk hc => ?_
  obtain ⟨rfl, hj⟩ := hc
  rw [hF] at hk
  cases hk
  rw [hE]
  rcases hj with rfl | rfl
  · exact .inr (.inl ⟨0, 1, by simp, by rw [hps], by rw [hps, szF], hBf⟩)
  · exact .inr (.inl ⟨0, 17, by simp, by rw [hps], by rw [hps, szF], hBf⟩)
theorem tca_leaveN {lb n cap : Nat} (hV : ShV sh lb n cap) (hn : 0 < n) : TCa Tryz.prog kd sh B G 160 sg_leaveN [(sg_leaveN.res, sg_leaveN.post)] := by
  intro N w args ha hB hl hw hG hp hpre
  have hNN : N ≤ 68719476736 := by simpa [sg_leaveN] using hl
  obtain ⟨fb, r, f, rfl, hps, hfb, hF, hBf, hsz, h17, ⟨ln, h1⟩, hcap, hn2, hS⟩ := leave_pre hV hNN rfl rfl ha hw hp hpre
  refine (leaveN_any (B := B) N w fb r lb n cap ln f hw hB hn2 hcap hF hsz hS h17 h1 hn).mono ?_
  rintro e w' ⟨rfl, K⟩
  refine ⟨_, rfl, K.wt, leave_eff K hps rfl hF hBf, _, List.mem_singleton.2 rfl, ⟨_, rfl, ⟨⟨_, rfl⟩, ⟨0, rfl, i64_in (by omega)⟩, ⟨0, rfl, i64_in (by omega)⟩, trivial⟩, 0, by simp, .inr rfl⟩, fun i T o t ht => ?_⟩
  have hm := Hm.at_mem ht
  have hrow : RowIn kd w' B 118 fb r := RowIn.mono ⟨f, hBf, hF, by rw [szF]; exact hsz⟩ K.eff
  simp only [sg_leaveN, List.mem_cons, List.not_mem_nil, or_false, Prod.mk.injEq] at hm
  rcases hm with ⟨⟨rfl, rfl, rfl⟩, rfl⟩ | ⟨⟨rfl, rfl, rfl⟩, rfl⟩
  · exact ⟨by rw [hps]; exact hfb, by rw [szF]; omega, by rw [hps]; exact hrow, _, by rw [hps, szF]; exact K.l, hV.v1.symm⟩
  · exact ⟨by rw [hps]; exact hfb, by rw [szF]; omega, by rw [hps]; exact hrow, _, by rw [hps, szF]; exact K.ln, rfl, i64_in (by omega)⟩
theorem tca_leave0 {lb n cap : Nat} (hev : EvG sh G) (hS : Safe kd prot G) (hV : ShV sh lb n cap) (hn : n = 0) : TCa Tryz.prog kd sh B G 160 sg_leave0 [(sg_leave0.res, sg_leave0.post)] := by
  intro N w args ha hB hl hw hG hp hpre
  have hNN : N ≤ 68719476736 := by simpa [sg_leave0] using hl
  obtain ⟨fb, r, f, rfl, hps, hfb, hF, hBf, hsz, h17, ⟨ln, h1⟩, hcap, hn2, hSl⟩ := leave_pre hV hNN rfl rfl ha hw hp hpre
  refine (leave0_any (B := B) hev hS N w fb r lb n cap ln f hG hNN hw hB hn2 hn hcap hF hsz hSl h17 h1).mono ?_
  rintro e w' ⟨k, v, rfl, hk, hv, K⟩
  exact ⟨_, rfl, K.wt, leave_eff K hps rfl hF hBf, _, List.mem_singleton.2 rfl, ⟨_, rfl, ⟨⟨_, rfl⟩, ⟨k, rfl, hk⟩, ⟨v, rfl, hv⟩, trivial⟩, 1, by simp, .inr rfl⟩, fun i T o t ht => by cases ht⟩
end Go.Proofs.YtncnepmgmphanaaGreatDoor

namespace Go.Proofs.YtncnepmgmphanaaGreatDoor
variable {sh : Sh} {B : Nat} {G : World → Prop}
theorem hev8 (hev : EvG sh G) (y : Option Int) : EvG (sh8 sh y) G := by cases y <;> exact hev
theorem chk_probe : fnChkR Tryz.prog kd evE (ftLook ft_enterWorker) (fun _ => none) true prot Tryz.f108 sg_probe [(sg_probe.res, sg_probe.post)] = true := by kernel_rfl
theorem tc_probe (hev : EvG sh G) (hS : Safe kd prot G) (hW : ∃ W, sh.el 0 = .int .i64 W ∧ inK .i64 W) : TC Tryz.prog kd sh B G 108 sg_probe :=
  tc_of_tca (fn_soundL Tryz.func108 chk_probe (fun y _ => hft_enterWorker (hev8 hev y) hS) (fun _ _ _ _ h => by cases h) hev (fun _ => hW) hS mixed)
end Go.Proofs.YtncnepmgmphanaaGreatDoor

namespace Go.Proofs.YtncnepmgmphanaaGreatDoor
open Go.RowKit
structure SBW where
  sb : Nat
abbrev SBn [Inhabited SBW] : Nat := (default : SBW).sb
variable [Inhabited SBW] {sh : Sh} {B N T : Nat} {w w' : World}
abbrev FRT : Nat := 118
abbrev NPc (k : Nat) (U : TypeId) (j : Nat) : Prop := (U, j % kd.sz U) ∉ prot
def GW (w : World) : World → Prop := fun w' => Eff NPc w w'
theorem safe_GW (w : World) : Safe kd prot (GW w) := fun _ _ h g => h.trans g
theorem prot_cell {b i : Nat} {c : Array Value} {U : TypeId} {f : Nat × Nat} (g : Eff NPc w w') (hb : w.heap[b]? = some (.cells c U f)) (hp : (U, i % kd.sz U) ∈ prot) : w'.cell? ⟨b, i, none⟩ = w.cell? ⟨b, i, none⟩ := by
  obtain ⟨c', h1, h2, h3⟩ := g.cells _ _ _ _ hb
  rw [cell_blk h1, cell_blk hb, h3 i (fun hx => hx hp)]
structure EE (sh : Sh) (B N T : Nat) (w : World) : Prop where
  el : ∀ q, q ∈ evE.2 → w.cell? ⟨sh.pe, q, none⟩ = some (sh.el q)
  blk : RowIn kd w B 66 sh.pe 0
  tasks : w.cell? ⟨sh.pe, 3, none⟩ = some (.int .i64 T)
  recs : slLen (sh.el 19) = T
  small : T ≤ 68719476736
  workers : ∃ W, sh.el 0 = .int .i64 W ∧ inK .i64 W ∧ 0 < W
  o9 : CellOK w B N (.sl 123 1) (sh.el 9)
  o10 : CellOK w B N (.sl 127 3) (sh.el 10)
  o11 : CellOK w B N (.sl 59 1) (sh.el 11)
  o19 : CellOK w B N (.sl 137 7) (sh.el 19)
  progs : ProgOK w (sh.el 9)
  sbl : SBn < w.heap.size
theorem szE : kd.sz 66 = 21 := by kernel_rfl
theorem ProgOK.mono {vp : Value} (h : ProgOK w vp) (hw : WT kd.sig B N w) (ho : CellOK w B N (.sl 123 1) vp) (g : Eff NPc w w') : ProgOK w' vp := by
  intro pb n cap hvp i hi qb m mc hc j hj
  subst hvp
  rcases sl_blk ho with h | ⟨b, n', c, cur, h, h1, h2, h3, h4, h5⟩
  · cases h
  cases h
  rw [prot_cell g h2 (by rw [show kd.sz 123 = 1 by kernel_rfl, Nat.mod_one]; decide)] at hc
  obtain ⟨a, e1, e2⟩ := h pb n cap rfl i hi qb m mc hc j hj
  obtain ⟨v, ev, ov⟩ := row_cell hw (T := 123) (L := [.sl 125 3]) (by kernel_rfl) h1 h2 (i := i) (j := 0) (by omega) (by show i % 1 = 0; omega) rfl
  rw [hc] at ev
  cases ev
  rcases sl_blk ov with h | ⟨b, n', c, cur', h, k1, k2, k3, k4, k5⟩
  · cases h
  cases h
  refine ⟨a, ?_, e2⟩
  rw [prot_cell g k2 (by rw [show kd.sz 125 = 3 by kernel_rfl, show (j * 3 + 1) % 3 = 1 by omega]; decide)]
  exact e1
theorem EE.mono {N' : Nat} (h : EE sh B N T w) (hw : WT kd.sig B N w) (g : Eff NPc w w') (hN : N ≤ N') : EE sh B N' T w' := by
  obtain ⟨e, h1, h2, h3⟩ := h.blk
  have pc : ∀ q, (66, q) ∈ prot → q < 21 → w'.cell? ⟨sh.pe, q, none⟩ = w.cell? ⟨sh.pe, q, none⟩ := fun q hq hl => prot_cell g h2 (by rw [szE, Nat.mod_eq_of_lt hl]; exact hq)
  refine ⟨fun q hq => ?_, h.blk.mono g, (pc 3 (by decide) (by omega)).trans h.tasks, h.recs, h.small, h.workers, h.o9.mono g hN, h.o10.mono g hN, h.o11.mono g hN, h.o19.mono g hN, h.progs.mono hw h.o9 g, Nat.lt_of_lt_of_le h.sbl g.size⟩
  have hq' : q = 0 ∨ q = 9 ∨ q = 10 ∨ q = 11 ∨ q = 19 := by simpa [evE] using hq
  rw [pc q (by rcases hq' with rfl | rfl | rfl | rfl | rfl <;> decide) (by omega)]
  exact h.el q hq
theorem sl_noint {E s : Nat} {v : Value} (h : CellOK w B N (.sl E s) v) (n : Int) : v ≠ .int .i64 n := by
  rcases sl_blk h with rfl | ⟨b, n', c, cur, rfl, -⟩ <;> intro h <;> cases h
theorem EE.ev (h : EE sh B N T w) (hw : WT kd.sig B N w) : EvG sh (GW w) := by
  intro q hq
  refine ⟨fun n hn => ?_, fun w' g => (h.mono hw g (Nat.le_refl _)).el q hq⟩
  have hq' : q = 0 ∨ q = 9 ∨ q = 10 ∨ q = 11 ∨ q = 19 := by simpa [evE] using hq
  rcases hq' with rfl | rfl | rfl | rfl | rfl
  · obtain ⟨W, e, -, h0⟩ := h.workers
    rw [hn] at e
    cases e
    exact h0
  · exact absurd hn (sl_noint h.o9 n)
  · exact absurd hn (sl_noint h.o10 n)
  · exact absurd hn (sl_noint h.o11 n)
  · exact absurd hn (sl_noint h.o19 n)
theorem EE.sht (h : EE sh B N T w) (hw : WT kd.sig B N w) : ShT sh (GW w) T := ⟨fun w' g => (h.mono hw g (Nat.le_refl _)).tasks, h.recs, h.small⟩
theorem EE.claim (h : EE sh B N T w) (hw : WT kd.sig B N w) : TC Tryz.prog kd sh B (GW w) 146 sg_claim := tc_claim (h.ev hw) (safe_GW w) (h.sht hw)
theorem EE.probe (h : EE sh B N T w) (hw : WT kd.sig B N w) : TC Tryz.prog kd sh B (GW w) 108 sg_probe := tc_probe (h.ev hw) (safe_GW w) (by obtain ⟨W, e, h1, -⟩ := h.workers; exact ⟨W, e, h1⟩)
def shL (sh : Sh) (a b : Value) : Sh := { sh with vals := fun j => if j = 0 then a else b }
theorem EE.shL (h : EE sh B N T w) (a b : Value) : EE (shL sh a b) B N T w := ⟨h.el, h.blk, h.tasks, h.recs, h.small, h.workers, h.o9, h.o10, h.o11, h.o19, h.progs, h.sbl⟩
def fc (w : World) (b r o : Nat) : Option Value := w.cell? ⟨b, r * 18 + o, none⟩
def protM : List (Nat × Nat) := prot ++ [(141, 0), (141, 1), (141, 2), (141, 3), (70, 0), (70, 1), (70, 2), (70, 3), (70, 4), (70, 5), (70, 6), (70, 7), (113, 0), (88, 0), (88, 1), (5, 0), (146, 0), (146, 1), (146, 2)]
theorem protM_of {x : Nat × Nat} (h : x ∉ protM) : x ∉ prot := fun hx => h (List.mem_append_left _ hx)
abbrev FCh (B : Nat) (w : World) (fb r : Nat) (k : Nat) (U : TypeId) (j : Nat) : Prop := w.heap.size ≤ k ∨ (k = fb ∧ r * 18 < j ∧ j < (r + 1) * 18) ∨ (U ≠ FRT ∧ (U, j % kd.sz U) ∉ protM ∧ B ≤ k)
def effFr (E : List EI) : Bool := E.all fun
  | .par i U o => decide (i = 1) && decide (U = FRT) && decide (0 < o) && decide (o < 18)
  | .ty U o => decide (U ≠ FRT) && !protM.contains (U, o)
theorem feff {E : List EI} {cx : Cx} {fb r : Nat} (hE : effFr E = true) (hb : cx.base = w.heap.size) (hp : cx.ps 1 = (fb, r)) (h : Eff (ChOf B kd cx E) w w') : Eff (FCh B w fb r) w w' := by
  refine h.mono fun k U j hk hc => ?_
  unfold effFr at hE
  rw [List.all_eq_true] at hE
  rcases hc with hc | ⟨i, o, hm, rfl, rfl, hBk⟩ | ⟨o, hm, rfl, hBk⟩
  · exact .inl (by omega)
  · have := hE _ hm
    simp only [Bool.and_eq_true, decide_eq_true_eq] at this
    obtain ⟨⟨⟨rfl, rfl⟩, h1⟩, h2⟩ := this
    rw [hp, szF]
    exact .inr (.inl ⟨rfl, by simp only; omega, by simp only; omega⟩)
  · have := hE _ hm
    simp only [Bool.and_eq_true, decide_eq_true_eq, Bool.not_eq_true'] at this
    refine .inr (.inr ⟨this.1, fun hx => ?_, hBk⟩)
    have h2 := List.contains_iff_mem.2 hx
    rw [this.2] at h2
    cases h2
theorem feff_np {fb r : Nat} {f : Array Value} (hF : w.heap[fb]? = some (.cells f FRT (0, 0))) (h : Eff (FCh B w fb r) w w') : Eff NPc w w' := by
  refine h.monoT fun k c U f' j hk hc => ?_
  rcases hc with hc | ⟨rfl, h1, h2⟩ | ⟨-, h2⟩
  · have := lt_of_blk hk; omega
  · rw [hF] at hk
    cases hk
    intro hx
    have : ∀ q, (FRT, q) ∉ prot := fun q hq => by simp [prot, FRT] at hq
    exact this _ hx
  · exact protM_of h2.1
theorem use_tca {f : FuncId} {s : FSig} {alts : List (AT × Hm)} {fb r : Nat} {args : Array Value} (h : TCa Tryz.prog kd sh B (GW w) f s alts) (hE : effFr s.eff = true) (hk : s.pre.all (fun e => decide (e.1.1 = 1) && decide (e.1.2.1 = FRT) && decide (e.1.2.2 < 18)) = true) (hlen : args.size = s.ps.length) (hw : WT kd.sig B N w) (hB : B ≤ w.heap.size) (hN : N + s.inc ≤ 68719476736) (hrow : RowIn kd w B FRT fb r) (hp1 : s.ps[1]? = some (.ptr FRT 0 (.par 1))) (ha1 : args[1]? = some (.pointer (some ⟨fb, r * 18, none⟩)))
    (hargs : ∀ (i : Nat) (t : AT), s.ps[i]? = some t → i ≠ 1 → ∃ v, args[i]? = some v ∧ ATok kd (cxOf kd sh s args w) w B N t v) (hpre : ∀ o t, s.pre.at (1, FRT, o) = some t → ∃ u, fc w fb r o = some u ∧ ATok kd (cxOf kd sh s args w) w B N t u) :
    Calls Tryz.prog f args w fun e w' => ∃ v, e = .returned v ∧ WT kd.sig B (N + s.inc) w' ∧ Eff (FCh B w fb r) w w' ∧ ∃ q ∈ alts, ATok kd (cxOf kd sh s args w) w' B (N + s.inc) q.1 v ∧ ∀ o t, q.2.at (1, FRT, o) = some t → ∃ u, fc w' fb r o = some u ∧ ATok kd (cxOf kd sh s args w) w' B (N + s.inc) t u := by
  have hps : (cxOf kd sh s args w).ps 1 = (fb, r) := by
    simp only [cxOf, psOf, hp1, ha1, szF]
    rw [Nat.mul_div_cancel _ (by omega)]
  obtain ⟨fr, hf1, hf2, hf3⟩ := id hrow
  have hfl := lt_of_blk hf2
  refine (h N w args hlen hB hN hw (Eff.refl _ w) (fun i t ht => ?_) (fun i U o t ht => ?_)).mono ?_
  · by_cases hi : i = 1
    · subst hi
      rw [hp1] at ht
      cases ht
      exact ⟨_, ha1, fb, r, by rw [szF]; rfl, by rw [szF]; omega, hrow, hps, hfl⟩
    · exact hargs i t ht hi
  · have hm := List.all_eq_true.1 hk _ (Hm.at_mem ht)
    simp only [Bool.and_eq_true, decide_eq_true_eq] at hm
    obtain ⟨⟨rfl, rfl⟩, ho⟩ := hm
    obtain ⟨u, hu1, hu2⟩ := hpre o t ht
    exact ⟨by rw [hps]; exact hfl, by rw [szF]; exact ho, by rw [hps]; exact hrow, u, by rw [hps, szF]; exact hu1, hu2⟩
  · rintro e w' ⟨v, rfl, g1, g2, q, hq, g3, g4⟩
    refine ⟨v, rfl, g1, feff hE rfl hps g2, q, hq, g3, fun o t ht => ?_⟩
    obtain ⟨-, -, -, u, k1, k2⟩ := g4 1 FRT o t ht
    rw [hps, szF] at k1
    exact ⟨u, k1, k2⟩
end Go.Proofs.YtncnepmgmphanaaGreatDoor
