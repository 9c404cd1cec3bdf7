/- The contracts by types of the reference engine (printed by gen_tc.py). No condition beside those named. -/
import Derived.Test.YtncnepmgmphanaaGreatDoorTcAcc
set_option linter.unusedVariables false
set_option linter.unusedSimpArgs false
set_option linter.unusedSectionVars false
namespace Go.Proofs.YtncnepmgmphanaaGreatDoor
variable {sh : Sh} {B : Nat} {G : World → Prop}
theorem VG : au Tryz.prog 131 := aO Tryz.func131 (by kernel_rfl) (by kernel_rfl)
theorem YC : aW Tryz.prog kd aQ (ah ([] : List (Nat × aj))) ae Tryz.f131 Cr = true := by kernel_rfl
theorem acS (hev : aG sh G) (hS : Safe kd ae G) : TC Tryz.prog kd sh B G 131 Cr := aH Tryz.func131 YC jk hev hS mixed
theorem JJ (hev : aG sh G) (hS : Safe kd ae G) : ∀ f s, ah D6 f = some s → au Tryz.prog f ∧ TC Tryz.prog kd sh B G f s := bn VG (acS hev hS) jk
theorem Bg : au Tryz.prog 82 := aO Tryz.func82 (by kernel_rfl) (by kernel_rfl)
theorem XK : aW Tryz.prog kd aQ (ah D6) ae Tryz.f82 mK = true := by kernel_rfl
theorem Jw (hev : aG sh G) (hS : Safe kd ae G) : TC Tryz.prog kd sh B G 82 mK := aH Tryz.func82 XK (JJ hev hS) hev hS mixed
theorem FV (hev : aG sh G) (hS : Safe kd ae G) : ∀ f s, ah xM f = some s → au Tryz.prog f ∧ TC Tryz.prog kd sh B G f s := bn Bg (Jw hev hS) (JJ hev hS)
theorem Xg : au Tryz.prog 64 := aO Tryz.func64 (by kernel_rfl) (by kernel_rfl)
theorem ab6 : aW Tryz.prog kd aQ (ah xM) ae Tryz.f64 oh = true := by kernel_rfl
theorem adZ (hev : aG sh G) (hS : Safe kd ae G) : TC Tryz.prog kd sh B G 64 oh := aH Tryz.func64 ab6 (FV hev hS) hev hS mixed
theorem JZ (hev : aG sh G) (hS : Safe kd ae G) : ∀ f s, ah Ei f = some s → au Tryz.prog f ∧ TC Tryz.prog kd sh B G f s := bn Xg (adZ hev hS) (FV hev hS)
theorem U8 : au Tryz.prog 83 := aO Tryz.func83 (by kernel_rfl) (by kernel_rfl)
theorem ab5 : aW Tryz.prog kd aQ (ah Ei) ae Tryz.f83 Ci = true := by kernel_rfl
theorem ado (hev : aG sh G) (hS : Safe kd ae G) : TC Tryz.prog kd sh B G 83 Ci := aH Tryz.func83 ab5 (JZ hev hS) hev hS mixed
theorem JE (hev : aG sh G) (hS : Safe kd ae G) : ∀ f s, ah Dh f = some s → au Tryz.prog f ∧ TC Tryz.prog kd sh B G f s := bn U8 (ado hev hS) (JZ hev hS)
theorem Yy : au Tryz.prog 171 := aO Tryz.func171 (by kernel_rfl) (by kernel_rfl)
theorem aeu : aW Tryz.prog kd aQ (ah Dh) ae Tryz.f171 He = true := by kernel_rfl
theorem agc (hev : aG sh G) (hS : Safe kd ae G) : TC Tryz.prog kd sh B G 171 He := aH Tryz.func171 aeu (JE hev hS) hev hS mixed
theorem Oe (hev : aG sh G) (hS : Safe kd ae G) : ∀ f s, ah IQ f = some s → au Tryz.prog f ∧ TC Tryz.prog kd sh B G f s := bn Yy (agc hev hS) (JE hev hS)
theorem Z7 : au Tryz.prog 142 := aO Tryz.func142 (by kernel_rfl) (by kernel_rfl)
theorem aed : aW Tryz.prog kd aQ (ah IQ) ae Tryz.f142 Io = true := by kernel_rfl
theorem agF (hev : aG sh G) (hS : Safe kd ae G) : TC Tryz.prog kd sh B G 142 Io := aH Tryz.func142 aed (Oe hev hS) hev hS mixed
theorem Pj (hev : aG sh G) (hS : Safe kd ae G) : ∀ f s, ah Ii f = some s → au Tryz.prog f ∧ TC Tryz.prog kd sh B G f s := bn Z7 (agF hev hS) (Oe hev hS)
theorem KX : au Tryz.prog 152 := aO Tryz.func152 (by kernel_rfl) (by kernel_rfl)
theorem Mq : aW Tryz.prog kd aQ (ah Ii) ae Tryz.f152 uk = true := by kernel_rfl
theorem RV (hev : aG sh G) (hS : Safe kd ae G) : TC Tryz.prog kd sh B G 152 uk := aH Tryz.func152 Mq (Pj hev hS) hev hS mixed
theorem xQ (hev : aG sh G) (hS : Safe kd ae G) : ∀ f s, ah uH f = some s → au Tryz.prog f ∧ TC Tryz.prog kd sh B G f s := bn KX (RV hev hS) (Pj hev hS)
theorem XJ : au Tryz.prog 153 := aO Tryz.func153 (by kernel_rfl) (by kernel_rfl)
theorem Zd : aW Tryz.prog kd aQ (ah uH) ae Tryz.f153 Cm = true := by kernel_rfl
theorem aeC (hev : aG sh G) (hS : Safe kd ae G) : TC Tryz.prog kd sh B G 153 Cm := aH Tryz.func153 Zd (xQ hev hS) hev hS mixed
theorem JS (hev : aG sh G) (hS : Safe kd ae G) : ∀ f s, ah Cv f = some s → au Tryz.prog f ∧ TC Tryz.prog kd sh B G f s := bn XJ (aeC hev hS) (xQ hev hS)
theorem Sm : au Tryz.prog 84 := aO Tryz.func84 (by kernel_rfl) (by kernel_rfl)
theorem UX : aW Tryz.prog kd aQ (ah Cv) ae Tryz.f84 yl = true := by kernel_rfl
theorem abd (hev : aG sh G) (hS : Safe kd ae G) : TC Tryz.prog kd sh B G 84 yl := aH Tryz.func84 UX (JS hev hS) hev hS mixed
theorem Ff (hev : aG sh G) (hS : Safe kd ae G) : ∀ f s, ah zw f = some s → au Tryz.prog f ∧ TC Tryz.prog kd sh B G f s := bn Sm (abd hev hS) (JS hev hS)
theorem UJ : au Tryz.prog 150 := aO Tryz.func150 (by kernel_rfl) (by kernel_rfl)
theorem abH : aW Tryz.prog kd aQ (ah zw) ae Tryz.f150 DD = true := by kernel_rfl
theorem adC (hev : aG sh G) (hS : Safe kd ae G) : TC Tryz.prog kd sh B G 150 DD := aH Tryz.func150 abH (Ff hev hS) hev hS mixed
theorem JV (hev : aG sh G) (hS : Safe kd ae G) : ∀ f s, ah Dk f = some s → au Tryz.prog f ∧ TC Tryz.prog kd sh B G f s := bn UJ (adC hev hS) (Ff hev hS)
theorem WO : au Tryz.prog 148 := aO Tryz.func148 (by kernel_rfl) (by kernel_rfl)
theorem aa7 : aW Tryz.prog kd aQ (ah Dk) ae Tryz.f148 Co = true := by kernel_rfl
theorem acU (hev : aG sh G) (hS : Safe kd ae G) : TC Tryz.prog kd sh B G 148 Co := aH Tryz.func148 aa7 (JV hev hS) hev hS mixed
theorem J5 (hev : aG sh G) (hS : Safe kd ae G) : ∀ f s, ah Cf f = some s → au Tryz.prog f ∧ TC Tryz.prog kd sh B G f s := bn WO (acU hev hS) (JV hev hS)
theorem aan : au Tryz.prog 158 := aO Tryz.func158 (by kernel_rfl) (by kernel_rfl)
theorem ada : aW Tryz.prog kd aQ (ah Cf) ae Tryz.f158 GG = true := by kernel_rfl
theorem ag5 (hev : aG sh G) (hS : Safe kd ae G) : TC Tryz.prog kd sh B G 158 GG := aH Tryz.func158 ada (J5 hev hS) hev hS mixed
theorem ND (hev : aG sh G) (hS : Safe kd ae G) : ∀ f s, ah Jo f = some s → au Tryz.prog f ∧ TC Tryz.prog kd sh B G f s := bn aan (ag5 hev hS) (J5 hev hS)
theorem Vl : au Tryz.prog 151 := aO Tryz.func151 (by kernel_rfl) (by kernel_rfl)
theorem Yx : aW Tryz.prog kd aQ (ah Jo) ae Tryz.f151 Cb = true := by kernel_rfl
theorem acM (hev : aG sh G) (hS : Safe kd ae G) : TC Tryz.prog kd sh B G 151 Cb := aH Tryz.func151 Yx (ND hev hS) hev hS mixed
theorem Ku (hev : aG sh G) (hS : Safe kd ae G) : ∀ f s, ah Dr f = some s → au Tryz.prog f ∧ TC Tryz.prog kd sh B G f s := bn Vl (acM hev hS) (ND hev hS)
theorem U2 : au Tryz.prog 149 := aO Tryz.func149 (by kernel_rfl) (by kernel_rfl)
theorem YM : aW Tryz.prog kd aQ (ah Dr) ae Tryz.f149 C9 = true := by kernel_rfl
theorem adW (hev : aG sh G) (hS : Safe kd ae G) : TC Tryz.prog kd sh B G 149 C9 := aH Tryz.func149 YM (Ku hev hS) hev hS mixed
theorem aa3 (hev : aG sh G) (hS : Safe kd ae G) : ∀ f s, ah Qf f = some s → au Tryz.prog f ∧ TC Tryz.prog kd sh B G f s := bn U2 (adW hev hS) (Ku hev hS)
theorem Kb (hev : aG sh G) (hS : Safe kd ae G) : ∀ f s, ah Cn f = some s → au Tryz.prog f ∧ TC Tryz.prog kd sh B G f s := bn ED aeF (aa3 hev hS)
theorem ack : au Tryz.prog 94 := aO Tryz.func94 (by kernel_rfl) (by kernel_rfl)
theorem acN : aW Tryz.prog kd aQ (ah Cn) ae Tryz.f94 GH = true := by kernel_rfl
theorem agP (hev : aG sh G) (hS : Safe kd ae G) : TC Tryz.prog kd sh B G 94 GH := aH Tryz.func94 acN (Kb hev hS) hev hS mixed
theorem aeb (hev : aG sh G) (hS : Safe kd ae G) : ∀ f s, ah Tn f = some s → au Tryz.prog f ∧ TC Tryz.prog kd sh B G f s := bn ack (agP hev hS) (Kb hev hS)
theorem ael : au Tryz.prog 139 := aO Tryz.func139 (by kernel_rfl) (by kernel_rfl)
theorem agd (hev : aG sh G) (hS : Safe kd ae G) : ∀ f s, ah Zl f = some s → au Tryz.prog f ∧ TC Tryz.prog kd sh B G f s := bn ael ahb (aeb hev hS)
theorem aay : au Tryz.prog 98 := aO Tryz.func98 (by kernel_rfl) (by kernel_rfl)
theorem aet (hev : aG sh G) (hS : Safe kd ae G) : ∀ f s, ah TT f = some s → au Tryz.prog f ∧ TC Tryz.prog kd sh B G f s := bn aay agl (agd hev hS)
theorem adM : au Tryz.prog 172 := aO Tryz.func172 (by kernel_rfl) (by kernel_rfl)
theorem Uw (hev : aG sh G) (hS : Safe kd ae G) : ∀ f s, ah Qn f = some s → au Tryz.prog f ∧ TC Tryz.prog kd sh B G f s := bn adM ahP (aet hev hS)
theorem aeo : au Tryz.prog 155 := aO Tryz.func155 (by kernel_rfl) (by kernel_rfl)
theorem ag2 : aW Tryz.prog kd aQ (ah Qn) ae Tryz.f155 PQ = true := by kernel_rfl
theorem ahx (hev : aG sh G) (hS : Safe kd ae G) : TC Tryz.prog kd sh B G 155 PQ := aH Tryz.func155 ag2 (Uw hev hS) hev hS mixed
theorem ag0 (hev : aG sh G) (hS : Safe kd ae G) : ∀ f s, ah abM f = some s → au Tryz.prog f ∧ TC Tryz.prog kd sh B G f s := bn aeo (ahx hev hS) (Uw hev hS)
theorem Vt : au Tryz.prog 154 := aO Tryz.func154 (by kernel_rfl) (by kernel_rfl)
theorem Js (hev : aG sh G) (hS : Safe kd ae G) : ∀ f s, ah BU f = some s → au Tryz.prog f ∧ TC Tryz.prog kd sh B G f s := bn Vt (aff hev hS) (ag0 hev hS)
theorem aaN : au Tryz.prog 140 := aO Tryz.func140 (by kernel_rfl) (by kernel_rfl)
theorem ac4 : aW Tryz.prog kd aQ (ah BU) ae Tryz.f140 Ir = true := by kernel_rfl
theorem ag4 (hev : aG sh G) (hS : Safe kd ae G) : TC Tryz.prog kd sh B G 140 Ir := aH Tryz.func140 ac4 (Js hev hS) hev hS mixed
theorem adz (hev : aG sh G) (hS : Safe kd ae G) : ∀ f s, ah TN f = some s → au Tryz.prog f ∧ TC Tryz.prog kd sh B G f s := bn aaN (ag4 hev hS) (Js hev hS)
theorem Ta : au Tryz.prog 143 := aO Tryz.func143 (by kernel_rfl) (by kernel_rfl)
theorem VR (hev : aG sh G) (hS : Safe kd ae G) : ∀ f s, ah KG f = some s → au Tryz.prog f ∧ TC Tryz.prog kd sh B G f s := bn Ta (Z6 hev hS) (adz hev hS)
theorem abR : au Tryz.prog 26 := aO Tryz.func26 (by kernel_rfl) (by kernel_rfl)
theorem P7 (hev : aG sh G) (hS : Safe kd ae G) : ∀ f s, ah Im f = some s → au Tryz.prog f ∧ TC Tryz.prog kd sh B G f s := bn abR agX (VR hev hS)
theorem ag8 : au Tryz.prog 170 := aO Tryz.func170 (by kernel_rfl) (by kernel_rfl)
theorem ahE : aW Tryz.prog kd aQ (ah Im) ae Tryz.f170 VP = true := by kernel_rfl
theorem ajm (hev : aG sh G) (hS : Safe kd ae G) : TC Tryz.prog kd sh B G 170 VP := aH Tryz.func170 ahE (P7 hev hS) hev hS mixed
theorem ahX (hev : aG sh G) (hS : Safe kd ae G) : ∀ f s, ah afG f = some s → au Tryz.prog f ∧ TC Tryz.prog kd sh B G f s := bn ag8 (ajm hev hS) (P7 hev hS)
theorem SA : au Tryz.prog 136 := aO Tryz.func136 (by kernel_rfl) (by kernel_rfl)
theorem Gx (hev : aG sh G) (hS : Safe kd ae G) : ∀ f s, ah xA f = some s → au Tryz.prog f ∧ TC Tryz.prog kd sh B G f s := bn SA (aaW hev hS) (ahX hev hS)
theorem YV : au Tryz.prog 97 := aO Tryz.func97 (by kernel_rfl) (by kernel_rfl)
theorem afb : aW Tryz.prog kd aQ (ah xA) ae Tryz.f97 GA = true := by kernel_rfl
theorem agQ (hev : aG sh G) (hS : Safe kd ae G) : TC Tryz.prog kd sh B G 97 GA := aH Tryz.func97 afb (Gx hev hS) hev hS mixed
theorem Qw (hev : aG sh G) (hS : Safe kd ae G) : ∀ f s, ah G7 f = some s → au Tryz.prog f ∧ TC Tryz.prog kd sh B G f s := bn YV (agQ hev hS) (Gx hev hS)
theorem XW : au Tryz.prog 100 := aO Tryz.func100 (by kernel_rfl) (by kernel_rfl)
theorem YP : aW Tryz.prog kd aQ (ah G7) ae Tryz.f100 Ce = true := by kernel_rfl
theorem aeG (hev : aG sh G) (hS : Safe kd ae G) : TC Tryz.prog kd sh B G 100 Ce := aH Tryz.func100 YP (Qw hev hS) hev hS mixed
theorem Ka (hev : aG sh G) (hS : Safe kd ae G) : ∀ f s, ah D9 f = some s → au Tryz.prog f ∧ TC Tryz.prog kd sh B G f s := bn XW (aeG hev hS) (Qw hev hS)
theorem acE : au Tryz.prog 99 := aO Tryz.func99 (by kernel_rfl) (by kernel_rfl)
theorem agZ : aW Tryz.prog kd aQ (ah D9) ae Tryz.f99 Qc = true := by kernel_rfl
theorem aiU (hev : aG sh G) (hS : Safe kd ae G) : TC Tryz.prog kd sh B G 99 Qc := aH Tryz.func99 agZ (Ka hev hS) hev hS mixed
theorem Ue (hev : aG sh G) (hS : Safe kd ae G) : ∀ f s, ah MN f = some s → au Tryz.prog f ∧ TC Tryz.prog kd sh B G f s := bn acE (aiU hev hS) (Ka hev hS)
theorem agt : au Tryz.prog 93 := aO Tryz.func93 (by kernel_rfl) (by kernel_rfl)
theorem ait : aW Tryz.prog kd aQ (ah MN) ae Tryz.f93 XA = true := by kernel_rfl
theorem ajj (hev : aG sh G) (hS : Safe kd ae G) : TC Tryz.prog kd sh B G 93 XA := aH Tryz.func93 ait (Ue hev hS) hev hS mixed
theorem YX (hev : aG sh G) (hS : Safe kd ae G) : ∀ f s, ah Wi f = some s → au Tryz.prog f ∧ TC Tryz.prog kd sh B G f s := bn agt (ajj hev hS) (Ue hev hS)
theorem acJ : au Tryz.prog 138 := aO Tryz.func138 (by kernel_rfl) (by kernel_rfl)
theorem af6 : aW Tryz.prog kd aQ (ah Wi) ae Tryz.f138 Me = true := by kernel_rfl
theorem ail (hev : aG sh G) (hS : Safe kd ae G) : TC Tryz.prog kd sh B G 138 Me := aH Tryz.func138 af6 (YX hev hS) hev hS mixed
theorem Tm (hev : aG sh G) (hS : Safe kd ae G) : ∀ f s, ah NU f = some s → au Tryz.prog f ∧ TC Tryz.prog kd sh B G f s := bn acJ (ail hev hS) (YX hev hS)
theorem ae6 : au Tryz.prog 141 := aO Tryz.func141 (by kernel_rfl) (by kernel_rfl)
theorem agw : aW Tryz.prog kd aQ (ah NU) ae Tryz.f141 zK = true := by kernel_rfl
theorem acm (hev : aG sh G) (hS : Safe kd ae G) : TC Tryz.prog kd sh B G 141 zK := aH Tryz.func141 agw (Tm hev hS) hev hS mixed
theorem TA (hev : aG sh G) (hS : Safe kd ae G) : ∀ f s, ah Oa f = some s → au Tryz.prog f ∧ TC Tryz.prog kd sh B G f s := bn ae6 (acm hev hS) (Tm hev hS)
theorem abj : au Tryz.prog 85 := aO Tryz.func85 (by kernel_rfl) (by kernel_rfl)
theorem adB : aW Tryz.prog kd aQ (ah Oa) ae Tryz.f85 Il = true := by kernel_rfl
theorem af8 (hev : aG sh G) (hS : Safe kd ae G) : TC Tryz.prog kd sh B G 85 Il := aH Tryz.func85 adB (TA hev hS) hev hS mixed
theorem NQ (hev : aG sh G) (hS : Safe kd ae G) : ∀ f s, ah Ha f = some s → au Tryz.prog f ∧ TC Tryz.prog kd sh B G f s := bn abj (af8 hev hS) (TA hev hS)
theorem aaM : au Tryz.prog 113 := aO Tryz.func113 (by kernel_rfl) (by kernel_rfl)
theorem aea : aW Tryz.prog kd aQ (ah Ha) ae Tryz.f113 qD = true := by kernel_rfl
theorem Tf (hev : aG sh G) (hS : Safe kd ae G) : TC Tryz.prog kd sh B G 113 qD := aH Tryz.func113 aea (NQ hev hS) hev hS mixed
theorem OL (hev : aG sh G) (hS : Safe kd ae G) : ∀ f s, ah I8 f = some s → au Tryz.prog f ∧ TC Tryz.prog kd sh B G f s := bn aaM (Tf hev hS) (NQ hev hS)
theorem VY : au Tryz.prog 65 := aO Tryz.func65 (by kernel_rfl) (by kernel_rfl)
theorem acv : aW Tryz.prog kd aQ (ah I8) ae Tryz.f65 mF = true := by kernel_rfl
theorem aeU (hev : aG sh G) (hS : Safe kd ae G) : TC Tryz.prog kd sh B G 65 mF := aH Tryz.func65 acv (OL hev hS) hev hS mixed
theorem Kc (hev : aG sh G) (hS : Safe kd ae G) : ∀ f s, ah Dx f = some s → au Tryz.prog f ∧ TC Tryz.prog kd sh B G f s := bn VY (aeU hev hS) (OL hev hS)
theorem fG : au Tryz.prog 95 := aO Tryz.func95 (by kernel_rfl) (by kernel_rfl)
theorem agO : aW Tryz.prog kd aQ (ah Dx) ae Tryz.f95 Ew = true := by kernel_rfl
theorem abk (hev : aG sh G) (hS : Safe kd ae G) : TC Tryz.prog kd sh B G 95 Ew := aH Tryz.func95 agO (Kc hev hS) hev hS mixed
theorem Tk (hev : aG sh G) (hS : Safe kd ae G) : ∀ f s, ah NA f = some s → au Tryz.prog f ∧ TC Tryz.prog kd sh B G f s := bn fG (abk hev hS) (Kc hev hS)
theorem aaX : au Tryz.prog 134 := aO Tryz.func134 (by kernel_rfl) (by kernel_rfl)
theorem adj : aW Tryz.prog kd aQ (ah NA) ae Tryz.f134 Iz = true := by kernel_rfl
theorem agh (hev : aG sh G) (hS : Safe kd ae G) : TC Tryz.prog kd sh B G 134 Iz := aH Tryz.func134 adj (Tk hev hS) hev hS mixed
theorem adw (hev : aG sh G) (hS : Safe kd ae G) : ∀ f s, ah Tv f = some s → au Tryz.prog f ∧ TC Tryz.prog kd sh B G f s := bn aaX (agh hev hS) (Tk hev hS)
theorem Zw : au Tryz.prog 135 := aO Tryz.func135 (by kernel_rfl) (by kernel_rfl)
theorem QC (hev : aG sh G) (hS : Safe kd ae G) : ∀ f s, ah GM f = some s → au Tryz.prog f ∧ TC Tryz.prog kd sh B G f s := bn Zw agD (adw hev hS)
theorem K9 : au Tryz.prog 133 := aO Tryz.func133 (by kernel_rfl) (by kernel_rfl)
theorem Qi : aW Tryz.prog kd aQ (ah GM) ae Tryz.f133 uK = true := by kernel_rfl
theorem SN (hev : aG sh G) (hS : Safe kd ae G) : TC Tryz.prog kd sh B G 133 uK := aH Tryz.func133 Qi (QC hev hS) hev hS mixed
theorem yN (hev : aG sh G) (hS : Safe kd ae G) : ∀ f s, ah uN f = some s → au Tryz.prog f ∧ TC Tryz.prog kd sh B G f s := bn K9 (SN hev hS) (QC hev hS)
theorem Z8 : au Tryz.prog 54 := aO Tryz.func54 (by kernel_rfl) (by kernel_rfl)
theorem acL : aW Tryz.prog kd aQ (ah uN) ae Tryz.f54 Hl = true := by kernel_rfl
theorem agE (hev : aG sh G) (hS : Safe kd ae G) : TC Tryz.prog kd sh B G 54 Hl := aH Tryz.func54 acL (yN hev hS) hev hS mixed
theorem Oc (hev : aG sh G) (hS : Safe kd ae G) : ∀ f s, ah IK f = some s → au Tryz.prog f ∧ TC Tryz.prog kd sh B G f s := bn Z8 (agE hev hS) (yN hev hS)
theorem mV : au Tryz.prog 161 := aO Tryz.func161 (by kernel_rfl) (by kernel_rfl)
theorem K8 : aW Tryz.prog kd aQ (ah IK) ae Tryz.f161 sK = true := by kernel_rfl
theorem OM (hev : aG sh G) (hS : Safe kd ae G) : TC Tryz.prog kd sh B G 161 sK := aH Tryz.func161 K8 (Oc hev hS) hev hS mixed
theorem wS (hev : aG sh G) (hS : Safe kd ae G) : ∀ f s, ah sP f = some s → au Tryz.prog f ∧ TC Tryz.prog kd sh B G f s := bn mV (OM hev hS) (Oc hev hS)
theorem aaY : au Tryz.prog 90 := aO Tryz.func90 (by kernel_rfl) (by kernel_rfl)
theorem ad2 : aW Tryz.prog kd aQ (ah sP) ae Tryz.f90 GU = true := by kernel_rfl
theorem agi (hev : aG sh G) (hS : Safe kd ae G) : TC Tryz.prog kd sh B G 90 GU := aH Tryz.func90 ad2 (wS hev hS) hev hS mixed
theorem Qe (hev : aG sh G) (hS : Safe kd ae G) : ∀ f s, ah Ib f = some s → au Tryz.prog f ∧ TC Tryz.prog kd sh B G f s := bn aaY (agi hev hS) (wS hev hS)
theorem aeV : au Tryz.prog 91 := aO Tryz.func91 (by kernel_rfl) (by kernel_rfl)
theorem agU : aW Tryz.prog kd aQ (ah Ib) ae Tryz.f91 Ph = true := by kernel_rfl
theorem ahR (hev : aG sh G) (hS : Safe kd ae G) : TC Tryz.prog kd sh B G 91 Ph := aH Tryz.func91 agU (Qe hev hS) hev hS mixed
theorem Tt (hev : aG sh G) (hS : Safe kd ae G) : ∀ f s, ah Nh f = some s → au Tryz.prog f ∧ TC Tryz.prog kd sh B G f s := bn aeV (ahR hev hS) (Qe hev hS)
theorem Wt : au Tryz.prog 92 := aO Tryz.func92 (by kernel_rfl) (by kernel_rfl)
theorem Ze : aW Tryz.prog kd aQ (ah Nh) ae Tryz.f92 DZ = true := by kernel_rfl
theorem ac6 (hev : aG sh G) (hS : Safe kd ae G) : TC Tryz.prog kd sh B G 92 DZ := aH Tryz.func92 Ze (Tt hev hS) hev hS mixed
theorem JK (hev : aG sh G) (hS : Safe kd ae G) : ∀ f s, ah Cs f = some s → au Tryz.prog f ∧ TC Tryz.prog kd sh B G f s := bn Wt (ac6 hev hS) (Tt hev hS)
theorem KV : au Tryz.prog 96 := aO Tryz.func96 (by kernel_rfl) (by kernel_rfl)
theorem Qy : aW Tryz.prog kd aQ (ah Cs) ae Tryz.f96 uo = true := by kernel_rfl
theorem Sq (hev : aG sh G) (hS : Safe kd ae G) : TC Tryz.prog kd sh B G 96 uo := aH Tryz.func96 Qy (JK hev hS) hev hS mixed
theorem yw (hev : aG sh G) (hS : Safe kd ae G) : ∀ f s, ah uz f = some s → au Tryz.prog f ∧ TC Tryz.prog kd sh B G f s := bn KV (Sq hev hS) (JK hev hS)
theorem Sj : au Tryz.prog 101 := aO Tryz.func101 (by kernel_rfl) (by kernel_rfl)
theorem Wh : aW Tryz.prog kd aQ (ah uz) ae Tryz.f101 yT = true := by kernel_rfl
theorem aas (hev : aG sh G) (hS : Safe kd ae G) : TC Tryz.prog kd sh B G 101 yT := aH Tryz.func101 Wh (yw hev hS) hev hS mixed
theorem EY (hev : aG sh G) (hS : Safe kd ae G) : ∀ f s, ah yF f = some s → au Tryz.prog f ∧ TC Tryz.prog kd sh B G f s := bn Sj (aas hev hS) (yw hev hS)
theorem U5 : au Tryz.prog 144 := aO Tryz.func144 (by kernel_rfl) (by kernel_rfl)
theorem aam : aW Tryz.prog kd aQ (ah yF) ae Tryz.f144 De = true := by kernel_rfl
theorem adv (hev : aG sh G) (hS : Safe kd ae G) : TC Tryz.prog kd sh B G 144 De := aH Tryz.func144 aam (EY hev hS) hev hS mixed
theorem Kt (hev : aG sh G) (hS : Safe kd ae G) : ∀ f s, ah Cq f = some s → au Tryz.prog f ∧ TC Tryz.prog kd sh B G f s := bn U5 (adv hev hS) (EY hev hS)
theorem QY : au Tryz.prog 145 := aO Tryz.func145 (by kernel_rfl) (by kernel_rfl)
theorem WC : aW Tryz.prog kd aQ (ah Cq) ae Tryz.f145 yh = true := by kernel_rfl
theorem abZ (hev : aG sh G) (hS : Safe kd ae G) : TC Tryz.prog kd sh B G 145 yh := aH Tryz.func145 WC (Kt hev hS) hev hS mixed
theorem Fy (hev : aG sh G) (hS : Safe kd ae G) : ∀ f s, ah yL f = some s → au Tryz.prog f ∧ TC Tryz.prog kd sh B G f s := bn QY (abZ hev hS) (Kt hev hS)
theorem QL : au Tryz.prog 147 := aO Tryz.func147 (by kernel_rfl) (by kernel_rfl)
theorem Vw : aW Tryz.prog kd aQ (ah yL) ae Tryz.f147 xU = true := by kernel_rfl
theorem ZQ (hev : aG sh G) (hS : Safe kd ae G) : TC Tryz.prog kd sh B G 147 xU := aH Tryz.func147 Vw (Fy hev hS) hev hS mixed
theorem Gc (hev : aG sh G) (hS : Safe kd ae G) : ∀ f s, ah zg f = some s → au Tryz.prog f ∧ TC Tryz.prog kd sh B G f s := bn QL (ZQ hev hS) (Fy hev hS)
theorem RJ : au Tryz.prog 102 := aO Tryz.func102 (by kernel_rfl) (by kernel_rfl)
theorem Xz : aW Tryz.prog kd aQ (ah zg) ae Tryz.f102 yj = true := by kernel_rfl
theorem aa0 (hev : aG sh G) (hS : Safe kd ae G) : TC Tryz.prog kd sh B G 102 yj := aH Tryz.func102 Xz (Gc hev hS) hev hS mixed
theorem Gn (hev : aG sh G) (hS : Safe kd ae G) : ∀ f s, ah za f = some s → au Tryz.prog f ∧ TC Tryz.prog kd sh B G f s := bn RJ (aa0 hev hS) (Gc hev hS)
theorem Ww : au Tryz.prog 104 := aO Tryz.func104 (by kernel_rfl) (by kernel_rfl)
theorem acj : aW Tryz.prog kd aQ (ah za) ae Tryz.f104 CG = true := by kernel_rfl
theorem adE (hev : aG sh G) (hS : Safe kd ae G) : TC Tryz.prog kd sh B G 104 CG := aH Tryz.func104 acj (Gn hev hS) hev hS mixed
theorem Jy (hev : aG sh G) (hS : Safe kd ae G) : ∀ f s, ah Dq f = some s → au Tryz.prog f ∧ TC Tryz.prog kd sh B G f s := bn Ww (adE hev hS) (Gn hev hS)
theorem UK : au Tryz.prog 105 := aO Tryz.func105 (by kernel_rfl) (by kernel_rfl)
theorem aa9 : aW Tryz.prog kd aQ (ah Dq) ae Tryz.f105 Cw = true := by kernel_rfl
theorem acx (hev : aG sh G) (hS : Safe kd ae G) : TC Tryz.prog kd sh B G 105 Cw := aH Tryz.func105 aa9 (Jy hev hS) hev hS mixed
theorem JR (hev : aG sh G) (hS : Safe kd ae G) : ∀ f s, ah CF f = some s → au Tryz.prog f ∧ TC Tryz.prog kd sh B G f s := bn UK (acx hev hS) (Jy hev hS)
theorem UQ : au Tryz.prog 106 := aO Tryz.func106 (by kernel_rfl) (by kernel_rfl)
theorem Yf : aW Tryz.prog kd aQ (ah CF) ae Tryz.f106 Ef = true := by kernel_rfl
theorem acC (hev : aG sh G) (hS : Safe kd ae G) : TC Tryz.prog kd sh B G 106 Ef := aH Tryz.func106 Yf (JR hev hS) hev hS mixed
theorem Ki (hev : aG sh G) (hS : Safe kd ae G) : ∀ f s, ah DT f = some s → au Tryz.prog f ∧ TC Tryz.prog kd sh B G f s := bn UQ (acC hev hS) (JR hev hS)
theorem ZF : au Tryz.prog 107 := aO Tryz.func107 (by kernel_rfl) (by kernel_rfl)
theorem ad5 : aW Tryz.prog kd aQ (ah DT) ae Tryz.f107 GV = true := by kernel_rfl
theorem agM (hev : aG sh G) (hS : Safe kd ae G) : TC Tryz.prog kd sh B G 107 GV := aH Tryz.func107 ad5 (Ki hev hS) hev hS mixed
theorem MF (hev : aG sh G) (hS : Safe kd ae G) : ∀ f s, ah Jk f = some s → au Tryz.prog f ∧ TC Tryz.prog kd sh B G f s := bn ZF (agM hev hS) (Ki hev hS)
theorem XB : au Tryz.prog 109 := aO Tryz.func109 (by kernel_rfl) (by kernel_rfl)
theorem Yj : aW Tryz.prog kd aQ (ah Jk) ae Tryz.f109 CP = true := by kernel_rfl
theorem ad3 (hev : aG sh G) (hS : Safe kd ae G) : TC Tryz.prog kd sh B G 109 CP := aH Tryz.func109 Yj (MF hev hS) hev hS mixed
theorem JG (hev : aG sh G) (hS : Safe kd ae G) : ∀ f s, ah Dc f = some s → au Tryz.prog f ∧ TC Tryz.prog kd sh B G f s := bn XB (ad3 hev hS) (MF hev hS)
theorem Le : au Tryz.prog 112 := aO Tryz.func112 (by kernel_rfl) (by kernel_rfl)
theorem Ob : aW Tryz.prog kd aQ (ah Dc) ae Tryz.f112 uC = true := by kernel_rfl
theorem QT (hev : aG sh G) (hS : Safe kd ae G) : TC Tryz.prog kd sh B G 112 uC := aH Tryz.func112 Ob (JG hev hS) hev hS mixed
theorem Aa (hev : aG sh G) (hS : Safe kd ae G) : ∀ f s, ah uG f = some s → au Tryz.prog f ∧ TC Tryz.prog kd sh B G f s := bn Le (QT hev hS) (JG hev hS)
theorem Ja : au Tryz.prog 114 := aO Tryz.func114 (by kernel_rfl) (by kernel_rfl)
theorem Lb : aW Tryz.prog kd aQ (ah uG) ae Tryz.f114 sM = true := by kernel_rfl
theorem P8 (hev : aG sh G) (hS : Safe kd ae G) : TC Tryz.prog kd sh B G 114 sM := aH Tryz.func114 Lb (Aa hev hS) hev hS mixed
theorem wU (hev : aG sh G) (hS : Safe kd ae G) : ∀ f s, ah sJ f = some s → au Tryz.prog f ∧ TC Tryz.prog kd sh B G f s := bn Ja (P8 hev hS) (Aa hev hS)
theorem KS : au Tryz.prog 115 := aO Tryz.func115 (by kernel_rfl) (by kernel_rfl)
theorem NR : aW Tryz.prog kd aQ (ah sJ) ae Tryz.f115 uD = true := by kernel_rfl
theorem Sb (hev : aG sh G) (hS : Safe kd ae G) : TC Tryz.prog kd sh B G 115 uD := aH Tryz.func115 NR (wU hev hS) hev hS mixed
theorem zD (hev : aG sh G) (hS : Safe kd ae G) : ∀ f s, ah uy f = some s → au Tryz.prog f ∧ TC Tryz.prog kd sh B G f s := bn KS (Sb hev hS) (wU hev hS)
theorem FX : au Tryz.prog 117 := aO Tryz.func117 (by kernel_rfl) (by kernel_rfl)
theorem Ie : aW Tryz.prog kd aQ (ah uy) ae Tryz.f117 ru = true := by kernel_rfl
theorem KJ (hev : aG sh G) (hS : Safe kd ae G) : TC Tryz.prog kd sh B G 117 ru := aH Tryz.func117 Ie (zD hev hS) hev hS mixed
theorem uQ (hev : aG sh G) (hS : Safe kd ae G) : ∀ f s, ah rz f = some s → au Tryz.prog f ∧ TC Tryz.prog kd sh B G f s := bn FX (KJ hev hS) (zD hev hS)
theorem fK : au Tryz.prog 86 := aO Tryz.func86 (by kernel_rfl) (by kernel_rfl)
theorem Ia : aW Tryz.prog kd aQ (ah rz) ae Tryz.f86 rC = true := by kernel_rfl
theorem KQ (hev : aG sh G) (hS : Safe kd ae G) : TC Tryz.prog kd sh B G 86 rC := aH Tryz.func86 Ia (uQ hev hS) hev hS mixed
theorem uS (hev : aG sh G) (hS : Safe kd ae G) : ∀ f s, ah ry f = some s → au Tryz.prog f ∧ TC Tryz.prog kd sh B G f s := bn fK (KQ hev hS) (uQ hev hS)
theorem sZ : au Tryz.prog 88 := aO Tryz.func88 (by kernel_rfl) (by kernel_rfl)
theorem FR : aW Tryz.prog kd aQ (ah ry) ae Tryz.f88 qy = true := by kernel_rfl
theorem Hg (hev : aG sh G) (hS : Safe kd ae G) : TC Tryz.prog kd sh B G 88 qy := aH Tryz.func88 FR (uS hev hS) hev hS mixed
theorem aA (hev : aG sh G) (hS : Safe kd ae G) : ∀ f s, ah aC f = some s → au Tryz.prog f ∧ TC Tryz.prog kd sh B G f s := bn sZ (Hg hev hS) (uS hev hS)
theorem Xm : au Tryz.prog 146 := aO Tryz.func146 (by kernel_rfl) (by kernel_rfl)
theorem JN (hev : aG sh G) (hS : Safe kd ae G) (ag : TC Tryz.prog kd sh B G 146 aD) : ∀ f s, ah Eo f = some s → au Tryz.prog f ∧ TC Tryz.prog kd sh B G f s := bn Xm ag (aA hev hS)
theorem V7 : au Tryz.prog 103 := aO Tryz.func103 (by kernel_rfl) (by kernel_rfl)
theorem Zm : aW Tryz.prog kd aQ (ah Eo) ae Tryz.f103 Dv = true := by kernel_rfl
theorem aek (hev : aG sh G) (hS : Safe kd ae G) (ag : TC Tryz.prog kd sh B G 146 aD) : TC Tryz.prog kd sh B G 103 Dv := aH Tryz.func103 Zm (JN hev hS ag) hev hS mixed
theorem Yh (hev : aG sh G) (hS : Safe kd ae G) (ag : TC Tryz.prog kd sh B G 146 aD) : ∀ f s, ah L6 f = some s → au Tryz.prog f ∧ TC Tryz.prog kd sh B G f s := bn V7 (aek hev hS ag) (JN hev hS ag)
theorem VS : au Tryz.prog 108 := aO Tryz.func108 (by kernel_rfl) (by kernel_rfl)
theorem aX (hev : aG sh G) (hS : Safe kd ae G) (ag : TC Tryz.prog kd sh B G 146 aD) (ai : TC Tryz.prog kd sh B G 108 aF) : ∀ f s, ah bu f = some s → au Tryz.prog f ∧ TC Tryz.prog kd sh B G f s := bn VS ai (Yh hev hS ag)
end Go.Proofs.YtncnepmgmphanaaGreatDoor
