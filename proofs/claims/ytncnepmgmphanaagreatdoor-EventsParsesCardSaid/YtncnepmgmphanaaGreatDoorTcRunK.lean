/- Contracts by types of the reference engine, with their ways out, part K (printed by gen_tc3.py). No condition beside those named. -/
import Derived.Test.YtncnepmgmphanaaGreatDoorTcRun
set_option linter.unusedVariables false
set_option linter.unusedSimpArgs false
set_option linter.unusedSectionVars false
namespace Go.Proofs.YtncnepmgmphanaaGreatDoor
variable {sh : Sh} {B : Nat} {G : World → Prop}
theorem ad9 : aP Tryz.prog kd aQ (ah aC) (aM []) false ae Tryz.f95 bS [(bS.res, bS.post)] = true := by kernel_rfl
theorem fH (hev : aG sh G) (hS : Safe kd ae G) : aV Tryz.prog kd sh B G 95 bS [(bS.res, bS.post)] := aB Tryz.func95 ad9 (aA hev hS) aJ hev hS mixed
theorem Gy : aP Tryz.prog kd aQ (ah aC) (aM []) false ae Tryz.f86 bP [(bP.res, bP.post)] = true := by kernel_rfl
theorem gQ (hev : aG sh G) (hS : Safe kd ae G) : aV Tryz.prog kd sh B G 86 bP [(bP.res, bP.post)] := aB Tryz.func86 Gy (aA hev hS) aJ hev hS mixed
theorem Ej : aP Tryz.prog kd aQ (ah aC) (aM []) false ae Tryz.f88 eX [(eX.res, eX.post)] = true := by kernel_rfl
theorem Cy (hev : aG sh G) (hS : Safe kd ae G) : aV Tryz.prog kd sh B G 88 eX [(eX.res, eX.post)] := aB Tryz.func88 Ej (aA hev hS) aJ hev hS mixed
theorem Eb : aP Tryz.prog kd aQ (ah aC) (aM []) false ae Tryz.f89 eQ [(eQ.res, eQ.post)] = true := by kernel_rfl
theorem Cg (hev : aG sh G) (hS : Safe kd ae G) : aV Tryz.prog kd sh B G 89 eQ [(eQ.res, eQ.post)] := aB Tryz.func89 Eb (aA hev hS) aJ hev hS mixed
theorem CQ : aP Tryz.prog kd aQ (ah aC) (aM []) false ae Tryz.f89 eU [(eU.res, eU.post)] = true := by kernel_rfl
theorem Dt (hev : aG sh G) (hS : Safe kd ae G) : aV Tryz.prog kd sh B G 89 eU [(eU.res, eU.post)] := aB Tryz.func89 CQ (aA hev hS) aJ hev hS mixed
theorem El : aP Tryz.prog kd aQ (ah aC) (aM []) false ae Tryz.f89 eY [(eY.res, eY.post)] = true := by kernel_rfl
theorem D7 (hev : aG sh G) (hS : Safe kd ae G) : aV Tryz.prog kd sh B G 89 eY [(eY.res, eY.post)] := aB Tryz.func89 El (aA hev hS) aJ hev hS mixed
theorem Rt : aP Tryz.prog kd aQ (ah aC) (aM [(89, eY, [(eY.res, eY.post)])]) false ae Tryz.f66 jD [(jD.res, jD.post)] = true := by kernel_rfl
theorem RN (hev : aG sh G) (hS : Safe kd ae G) : aV Tryz.prog kd sh B G 66 jD [(jD.res, jD.post)] := aB Tryz.func66 Rt (aA hev hS) (aL oq (D7 hev hS) aJ) hev hS mixed
theorem Ry : aW Tryz.prog kd aQ (ah aC) ae Tryz.f132 lH = true := by kernel_rfl
theorem QM (hev : aG sh G) (hS : Safe kd ae G) : aV Tryz.prog kd sh B G 132 lH [(lH.res, lH.post)] := aZ (aH Tryz.func132 Ry (aA hev hS) hev hS mixed)
theorem Rz : aW Tryz.prog kd aQ (ah aC) ae Tryz.f132 lJ = true := by kernel_rfl
theorem RO (hev : aG sh G) (hS : Safe kd ae G) : aV Tryz.prog kd sh B G 132 lJ [(lJ.res, lJ.post)] := aZ (aH Tryz.func132 Rz (aA hev hS) hev hS mixed)
theorem QZ : aW Tryz.prog kd aQ (ah aC) ae Tryz.f132 lg = true := by kernel_rfl
theorem R9 (hev : aG sh G) (hS : Safe kd ae G) : aV Tryz.prog kd sh B G 132 lg [(lg.res, lg.post)] := aZ (aH Tryz.func132 QZ (aA hev hS) hev hS mixed)
theorem QQ : aW Tryz.prog kd aQ (ah aC) ae Tryz.f132 lG = true := by kernel_rfl
theorem Sa (hev : aG sh G) (hS : Safe kd ae G) : aV Tryz.prog kd sh B G 132 lG [(lG.res, lG.post)] := aZ (aH Tryz.func132 QQ (aA hev hS) hev hS mixed)
theorem Qd : aW Tryz.prog kd aQ (ah aC) ae Tryz.f132 ku = true := by kernel_rfl
theorem Mh (hev : aG sh G) (hS : Safe kd ae G) : aV Tryz.prog kd sh B G 132 ku [(ku.res, ku.post)] := aZ (aH Tryz.func132 Qd (aA hev hS) hev hS mixed)
theorem Mj : aW Tryz.prog kd aQ (ah aC) ae Tryz.f132 jV = true := by kernel_rfl
theorem OE (hev : aG sh G) (hS : Safe kd ae G) : aV Tryz.prog kd sh B G 132 jV [(jV.res, jV.post)] := aZ (aH Tryz.func132 Mj (aA hev hS) hev hS mixed)
theorem NM : aW Tryz.prog kd aQ (ah aC) ae Tryz.f132 jK = true := by kernel_rfl
theorem Pv (hev : aG sh G) (hS : Safe kd ae G) : aV Tryz.prog kd sh B G 132 jK [(jK.res, jK.post)] := aZ (aH Tryz.func132 NM (aA hev hS) hev hS mixed)
theorem P5 : aW Tryz.prog kd aQ (ah aC) ae Tryz.f132 jO = true := by kernel_rfl
theorem MQ (hev : aG sh G) (hS : Safe kd ae G) : aV Tryz.prog kd sh B G 132 jO [(jO.res, jO.post)] := aZ (aH Tryz.func132 P5 (aA hev hS) hev hS mixed)
theorem OU : aW Tryz.prog kd aQ (ah aC) ae Tryz.f132 j4 = true := by kernel_rfl
theorem OT (hev : aG sh G) (hS : Safe kd ae G) : aV Tryz.prog kd sh B G 132 j4 [(j4.res, j4.post)] := aZ (aH Tryz.func132 OU (aA hev hS) hev hS mixed)
theorem Po : aW Tryz.prog kd aQ (ah aC) ae Tryz.f132 jN = true := by kernel_rfl
theorem NF (hev : aG sh G) (hS : Safe kd ae G) : aV Tryz.prog kd sh B G 132 jN [(jN.res, jN.post)] := aZ (aH Tryz.func132 Po (aA hev hS) hev hS mixed)
theorem NH : aW Tryz.prog kd aQ (ah aC) ae Tryz.f132 j6 = true := by kernel_rfl
theorem Qt (hev : aG sh G) (hS : Safe kd ae G) : aV Tryz.prog kd sh B G 132 j6 [(j6.res, j6.post)] := aZ (aH Tryz.func132 NH (aA hev hS) hev hS mixed)
theorem Nw : aW Tryz.prog kd aQ (ah aC) ae Tryz.f132 jQ = true := by kernel_rfl
theorem LJ (hev : aG sh G) (hS : Safe kd ae G) : aV Tryz.prog kd sh B G 132 jQ [(jQ.res, jQ.post)] := aZ (aH Tryz.func132 Nw (aA hev hS) hev hS mixed)
theorem M5 : aW Tryz.prog kd aQ (ah aC) ae Tryz.f132 kg = true := by kernel_rfl
theorem LM (hev : aG sh G) (hS : Safe kd ae G) : aV Tryz.prog kd sh B G 132 kg [(kg.res, kg.post)] := aZ (aH Tryz.func132 M5 (aA hev hS) hev hS mixed)
theorem MW : aW Tryz.prog kd aQ (ah aC) ae Tryz.f132 jR = true := by kernel_rfl
theorem Mw (hev : aG sh G) (hS : Safe kd ae G) : aV Tryz.prog kd sh B G 132 jR [(jR.res, jR.post)] := aZ (aH Tryz.func132 MW (aA hev hS) hev hS mixed)
theorem MS : aW Tryz.prog kd aQ (ah aC) ae Tryz.f132 jL = true := by kernel_rfl
theorem M6 (hev : aG sh G) (hS : Safe kd ae G) : aV Tryz.prog kd sh B G 132 jL [(jL.res, jL.post)] := aZ (aH Tryz.func132 MS (aA hev hS) hev hS mixed)
theorem Lh : aP Tryz.prog kd aQ (ah aC) (aM [(132, lH, [(lH.res, lH.post)])]) false ae Tryz.f87 gN [(gN.res, gN.post)] = true := by kernel_rfl
theorem KM (hev : aG sh G) (hS : Safe kd ae G) : aV Tryz.prog kd sh B G 87 gN [(gN.res, gN.post)] := aB Tryz.func87 Lh (aA hev hS) (aL dD (QM hev hS) aJ) hev hS mixed
theorem KL : aP Tryz.prog kd aQ (ah aC) (aM [(132, lJ, [(lJ.res, lJ.post)])]) false ae Tryz.f87 gK [(gK.res, gK.post)] = true := by kernel_rfl
theorem Lg (hev : aG sh G) (hS : Safe kd ae G) : aV Tryz.prog kd sh B G 87 gK [(gK.res, gK.post)] := aB Tryz.func87 KL (aA hev hS) (aL dD (RO hev hS) aJ) hev hS mixed
theorem Lf : aP Tryz.prog kd aQ (ah aC) (aM [(132, lg, [(lg.res, lg.post)])]) false ae Tryz.f87 gL [(gL.res, gL.post)] = true := by kernel_rfl
theorem Lc (hev : aG sh G) (hS : Safe kd ae G) : aV Tryz.prog kd sh B G 87 gL [(gL.res, gL.post)] := aB Tryz.func87 Lf (aA hev hS) (aL dD (R9 hev hS) aJ) hev hS mixed
theorem KH : aP Tryz.prog kd aQ (ah aC) (aM [(132, lG, [(lG.res, lG.post)])]) false ae Tryz.f87 gM [(gM.res, gM.post)] = true := by kernel_rfl
theorem KR (hev : aG sh G) (hS : Safe kd ae G) : aV Tryz.prog kd sh B G 87 gM [(gM.res, gM.post)] := aB Tryz.func87 KH (aA hev hS) (aL dD (Sa hev hS) aJ) hev hS mixed
theorem Hr : aP Tryz.prog kd aQ (ah aC) (aM [(132, ku, [(ku.res, ku.post)])]) false ae Tryz.f87 fT [(fT.res, fT.post)] = true := by kernel_rfl
theorem Ih (hev : aG sh G) (hS : Safe kd ae G) : aV Tryz.prog kd sh B G 87 fT [(fT.res, fT.post)] := aB Tryz.func87 Hr (aA hev hS) (aL dD (Mh hev hS) aJ) hev hS mixed
theorem I7 : aP Tryz.prog kd aQ (ah aC) (aM [(132, jV, [(jV.res, jV.post)])]) false ae Tryz.f87 gy [(gy.res, gy.post)] = true := by kernel_rfl
theorem Ho (hev : aG sh G) (hS : Safe kd ae G) : aV Tryz.prog kd sh B G 87 gy [(gy.res, gy.post)] := aB Tryz.func87 I7 (aA hev hS) (aL dD (OE hev hS) aJ) hev hS mixed
theorem IJ : aP Tryz.prog kd aQ (ah aC) (aM [(132, jK, [(jK.res, jK.post)])]) false ae Tryz.f87 fP [(fP.res, fP.post)] = true := by kernel_rfl
theorem Ji (hev : aG sh G) (hS : Safe kd ae G) : aV Tryz.prog kd sh B G 87 fP [(fP.res, fP.post)] := aB Tryz.func87 IJ (aA hev hS) (aL dD (Pv hev hS) aJ) hev hS mixed
theorem GZ : aP Tryz.prog kd aQ (ah aC) (aM [(132, jO, [(jO.res, jO.post)])]) false ae Tryz.f87 gz [(gz.res, gz.post)] = true := by kernel_rfl
theorem Jc (hev : aG sh G) (hS : Safe kd ae G) : aV Tryz.prog kd sh B G 87 gz [(gz.res, gz.post)] := aB Tryz.func87 GZ (aA hev hS) (aL dD (MQ hev hS) aJ) hev hS mixed
theorem Jm : aP Tryz.prog kd aQ (ah aC) (aM [(132, j4, [(j4.res, j4.post)])]) false ae Tryz.f87 gq [(gq.res, gq.post)] = true := by kernel_rfl
theorem Hw (hev : aG sh G) (hS : Safe kd ae G) : aV Tryz.prog kd sh B G 87 gq [(gq.res, gq.post)] := aB Tryz.func87 Jm (aA hev hS) (aL dD (OT hev hS) aJ) hev hS mixed
theorem Jf : aP Tryz.prog kd aQ (ah aC) (aM [(132, jN, [(jN.res, jN.post)])]) false ae Tryz.f87 gp [(gp.res, gp.post)] = true := by kernel_rfl
theorem Hf (hev : aG sh G) (hS : Safe kd ae G) : aV Tryz.prog kd sh B G 87 gp [(gp.res, gp.post)] := aB Tryz.func87 Jf (aA hev hS) (aL dD (NF hev hS) aJ) hev hS mixed
theorem Jh : aP Tryz.prog kd aQ (ah aC) (aM [(132, j6, [(j6.res, j6.post)])]) false ae Tryz.f87 gm [(gm.res, gm.post)] = true := by kernel_rfl
theorem GY (hev : aG sh G) (hS : Safe kd ae G) : aV Tryz.prog kd sh B G 87 gm [(gm.res, gm.post)] := aB Tryz.func87 Jh (aA hev hS) (aL dD (Qt hev hS) aJ) hev hS mixed
theorem IM : aP Tryz.prog kd aQ (ah aC) (aM [(132, jQ, [(jQ.res, jQ.post)])]) false ae Tryz.f87 gu [(gu.res, gu.post)] = true := by kernel_rfl
theorem GK (hev : aG sh G) (hS : Safe kd ae G) : aV Tryz.prog kd sh B G 87 gu [(gu.res, gu.post)] := aB Tryz.func87 IM (aA hev hS) (aL dD (LJ hev hS) aJ) hev hS mixed
theorem GL : aP Tryz.prog kd aQ (ah aC) (aM [(132, kg, [(kg.res, kg.post)])]) false ae Tryz.f87 fV [(fV.res, fV.post)] = true := by kernel_rfl
theorem GD (hev : aG sh G) (hS : Safe kd ae G) : aV Tryz.prog kd sh B G 87 fV [(fV.res, fV.post)] := aB Tryz.func87 GL (aA hev hS) (aL dD (LM hev hS) aJ) hev hS mixed
theorem Hu : aP Tryz.prog kd aQ (ah aC) (aM [(132, jR, [(jR.res, jR.post)])]) false ae Tryz.f87 fZ [(fZ.res, fZ.post)] = true := by kernel_rfl
theorem II (hev : aG sh G) (hS : Safe kd ae G) : aV Tryz.prog kd sh B G 87 fZ [(fZ.res, fZ.post)] := aB Tryz.func87 Hu (aA hev hS) (aL dD (Mw hev hS) aJ) hev hS mixed
theorem IY : aP Tryz.prog kd aQ (ah aC) (aM [(132, jL, [(jL.res, jL.post)])]) false ae Tryz.f87 fU [(fU.res, fU.post)] = true := by kernel_rfl
theorem Hy (hev : aG sh G) (hS : Safe kd ae G) : aV Tryz.prog kd sh B G 87 fU [(fU.res, fU.post)] := aB Tryz.func87 IY (aA hev hS) (aL dD (M6 hev hS) aJ) hev hS mixed
theorem aeT : aP Tryz.prog kd aQ (ah aC) (aM []) false ae Tryz.f66 qz [(qz.res, qz.post)] = true := by kernel_rfl
theorem ac8 (hev : aG sh G) (hS : Safe kd ae G) : aV Tryz.prog kd sh B G 66 qz [(qz.res, qz.post)] := aB Tryz.func66 aeT (aA hev hS) aJ hev hS mixed
theorem ae4 : aP Tryz.prog kd aQ (ah aC) (aM []) false ae Tryz.f66 qE [(qE.res, qE.post)] = true := by kernel_rfl
theorem aeX (hev : aG sh G) (hS : Safe kd ae G) : aV Tryz.prog kd sh B G 66 qE [(qE.res, qE.post)] := aB Tryz.func66 ae4 (aA hev hS) aJ hev hS mixed
theorem ac1 : aP Tryz.prog kd aQ (ah aC) (aM []) false ae Tryz.f66 qC [(qC.res, qC.post)] = true := by kernel_rfl
theorem adf (hev : aG sh G) (hS : Safe kd ae G) : aV Tryz.prog kd sh B G 66 qC [(qC.res, qC.post)] := aB Tryz.func66 ac1 (aA hev hS) aJ hev hS mixed
theorem adH : aP Tryz.prog kd aQ (ah aC) (aM []) false ae Tryz.f66 qm [(qm.res, qm.post)] = true := by kernel_rfl
theorem ads (hev : aG sh G) (hS : Safe kd ae G) : aV Tryz.prog kd sh B G 66 qm [(qm.res, qm.post)] := aB Tryz.func66 adH (aA hev hS) aJ hev hS mixed
theorem aeN : aP Tryz.prog kd aQ (ah aC) (aM []) false ae Tryz.f66 qw [(qw.res, qw.post)] = true := by kernel_rfl
theorem adO (hev : aG sh G) (hS : Safe kd ae G) : aV Tryz.prog kd sh B G 66 qw [(qw.res, qw.post)] := aB Tryz.func66 aeN (aA hev hS) aJ hev hS mixed
theorem aeh : aP Tryz.prog kd aQ (ah aC) (aM []) false ae Tryz.f66 qj [(qj.res, qj.post)] = true := by kernel_rfl
theorem acI (hev : aG sh G) (hS : Safe kd ae G) : aV Tryz.prog kd sh B G 66 qj [(qj.res, qj.post)] := aB Tryz.func66 aeh (aA hev hS) aJ hev hS mixed
theorem aei : aP Tryz.prog kd aQ (ah aC) (aM []) false ae Tryz.f66 qG [(qG.res, qG.post)] = true := by kernel_rfl
theorem aeS (hev : aG sh G) (hS : Safe kd ae G) : aV Tryz.prog kd sh B G 66 qG [(qG.res, qG.post)] := aB Tryz.func66 aei (aA hev hS) aJ hev hS mixed
theorem adT : aP Tryz.prog kd aQ (ah aC) (aM []) false ae Tryz.f66 qA [(qA.res, qA.post)] = true := by kernel_rfl
theorem acR (hev : aG sh G) (hS : Safe kd ae G) : aV Tryz.prog kd sh B G 66 qA [(qA.res, qA.post)] := aB Tryz.func66 adT (aA hev hS) aJ hev hS mixed
theorem ab1 : aP Tryz.prog kd aQ (ah aC) (aM []) false ae Tryz.f66 om [(om.res, om.post)] = true := by kernel_rfl
theorem YG (hev : aG sh G) (hS : Safe kd ae G) : aV Tryz.prog kd sh B G 66 om [(om.res, om.post)] := aB Tryz.func66 ab1 (aA hev hS) aJ hev hS mixed
theorem Yt : aP Tryz.prog kd aQ (ah aC) (aM []) false ae Tryz.f66 ou [(ou.res, ou.post)] = true := by kernel_rfl
theorem ZY (hev : aG sh G) (hS : Safe kd ae G) : aV Tryz.prog kd sh B G 66 ou [(ou.res, ou.post)] := aB Tryz.func66 Yt (aA hev hS) aJ hev hS mixed
theorem aap : aP Tryz.prog kd aQ (ah aC) (aM []) false ae Tryz.f66 nN [(nN.res, nN.post)] = true := by kernel_rfl
theorem abl (hev : aG sh G) (hS : Safe kd ae G) : aV Tryz.prog kd sh B G 66 nN [(nN.res, nN.post)] := aB Tryz.func66 aap (aA hev hS) aJ hev hS mixed
theorem ZK : aP Tryz.prog kd aQ (ah aC) (aM []) false ae Tryz.f66 nR [(nR.res, nR.post)] = true := by kernel_rfl
theorem abg (hev : aG sh G) (hS : Safe kd ae G) : aV Tryz.prog kd sh B G 66 nR [(nR.res, nR.post)] := aB Tryz.func66 ZK (aA hev hS) aJ hev hS mixed
theorem abK : aP Tryz.prog kd aQ (ah aC) (aM []) false ae Tryz.f66 nO [(nO.res, nO.post)] = true := by kernel_rfl
theorem Zq (hev : aG sh G) (hS : Safe kd ae G) : aV Tryz.prog kd sh B G 66 nO [(nO.res, nO.post)] := aB Tryz.func66 abK (aA hev hS) aJ hev hS mixed
theorem abr : aP Tryz.prog kd aQ (ah aC) (aM []) false ae Tryz.f66 nT [(nT.res, nT.post)] = true := by kernel_rfl
theorem aaj (hev : aG sh G) (hS : Safe kd ae G) : aV Tryz.prog kd sh B G 66 nT [(nT.res, nT.post)] := aB Tryz.func66 abr (aA hev hS) aJ hev hS mixed
theorem aaR : aP Tryz.prog kd aQ (ah aC) (aM []) false ae Tryz.f66 nV [(nV.res, nV.post)] = true := by kernel_rfl
theorem aak (hev : aG sh G) (hS : Safe kd ae G) : aV Tryz.prog kd sh B G 66 nV [(nV.res, nV.post)] := aB Tryz.func66 aaR (aA hev hS) aJ hev hS mixed
theorem Zo : aP Tryz.prog kd aQ (ah aC) (aM []) false ae Tryz.f66 nU [(nU.res, nU.post)] = true := by kernel_rfl
theorem aag (hev : aG sh G) (hS : Safe kd ae G) : aV Tryz.prog kd sh B G 66 nU [(nU.res, nU.post)] := aB Tryz.func66 Zo (aA hev hS) aJ hev hS mixed
theorem aa6 : aP Tryz.prog kd aQ (ah aC) (aM []) false ae Tryz.f66 og [(og.res, og.post)] = true := by kernel_rfl
theorem ZO (hev : aG sh G) (hS : Safe kd ae G) : aV Tryz.prog kd sh B G 66 og [(og.res, og.post)] := aB Tryz.func66 aa6 (aA hev hS) aJ hev hS mixed
theorem adY : aP Tryz.prog kd aQ (ah aC) (aM [(86, bP, [(bP.res, bP.post)])]) false ae Tryz.f66 ql [(ql.res, ql.post)] = true := by kernel_rfl
theorem adP (hev : aG sh G) (hS : Safe kd ae G) : aV Tryz.prog kd sh B G 66 ql [(ql.res, ql.post)] := aB Tryz.func66 adY (aA hev hS) (aL fK (gQ hev hS) aJ) hev hS mixed
theorem aep : aP Tryz.prog kd aQ (ah aC) (aM [(86, bP, [(bP.res, bP.post)])]) false ae Tryz.f66 qp [(qp.res, qp.post)] = true := by kernel_rfl
theorem adA (hev : aG sh G) (hS : Safe kd ae G) : aV Tryz.prog kd sh B G 66 qp [(qp.res, qp.post)] := aB Tryz.func66 aep (aA hev hS) (aL fK (gQ hev hS) aJ) hev hS mixed
theorem aat : aP Tryz.prog kd aQ (ah aC) (aM [(86, bP, [(bP.res, bP.post)])]) false ae Tryz.f66 ow [(ow.res, ow.post)] = true := by kernel_rfl
theorem YN (hev : aG sh G) (hS : Safe kd ae G) : aV Tryz.prog kd sh B G 66 ow [(ow.res, ow.post)] := aB Tryz.func66 aat (aA hev hS) (aL fK (gQ hev hS) aJ) hev hS mixed
theorem aad : aP Tryz.prog kd aQ (ah aC) (aM [(86, bP, [(bP.res, bP.post)])]) false ae Tryz.f66 nQ [(nQ.res, nQ.post)] = true := by kernel_rfl
theorem Yu (hev : aG sh G) (hS : Safe kd ae G) : aV Tryz.prog kd sh B G 66 nQ [(nQ.res, nQ.post)] := aB Tryz.func66 aad (aA hev hS) (aL fK (gQ hev hS) aJ) hev hS mixed
theorem Zt : aP Tryz.prog kd aQ (ah aC) (aM [(86, bP, [(bP.res, bP.post)])]) false ae Tryz.f66 nZ [(nZ.res, nZ.post)] = true := by kernel_rfl
theorem aav (hev : aG sh G) (hS : Safe kd ae G) : aV Tryz.prog kd sh B G 66 nZ [(nZ.res, nZ.post)] := aB Tryz.func66 Zt (aA hev hS) (aL fK (gQ hev hS) aJ) hev hS mixed
theorem aax : aP Tryz.prog kd aQ (ah aC) (aM [(86, bP, [(bP.res, bP.post)])]) false ae Tryz.f66 nW [(nW.res, nW.post)] = true := by kernel_rfl
theorem YB (hev : aG sh G) (hS : Safe kd ae G) : aV Tryz.prog kd sh B G 66 nW [(nW.res, nW.post)] := aB Tryz.func66 aax (aA hev hS) (aL fK (gQ hev hS) aJ) hev hS mixed
theorem YJ : aP Tryz.prog kd aQ (ah aC) (aM [(86, bP, [(bP.res, bP.post)])]) false ae Tryz.f66 nM [(nM.res, nM.post)] = true := by kernel_rfl
theorem YU (hev : aG sh G) (hS : Safe kd ae G) : aV Tryz.prog kd sh B G 66 nM [(nM.res, nM.post)] := aB Tryz.func66 YJ (aA hev hS) (aL fK (gQ hev hS) aJ) hev hS mixed
theorem abL : aP Tryz.prog kd aQ (ah aC) (aM [(88, eX, [(eX.res, eX.post)])]) false ae Tryz.f66 oo [(oo.res, oo.post)] = true := by kernel_rfl
theorem Y7 (hev : aG sh G) (hS : Safe kd ae G) : aV Tryz.prog kd sh B G 66 oo [(oo.res, oo.post)] := aB Tryz.func66 abL (aA hev hS) (aL sZ (Cy hev hS) aJ) hev hS mixed
theorem Sk : aP Tryz.prog kd aQ (ah aC) (aM [(89, eQ, [(eQ.res, eQ.post)])]) false ae Tryz.f66 jB [(jB.res, jB.post)] = true := by kernel_rfl
theorem QV (hev : aG sh G) (hS : Safe kd ae G) : aV Tryz.prog kd sh B G 66 jB [(jB.res, jB.post)] := aB Tryz.func66 Sk (aA hev hS) (aL oq (Cg hev hS) aJ) hev hS mixed
theorem Rs : aP Tryz.prog kd aQ (ah aC) (aM [(89, eU, [(eU.res, eU.post)])]) false ae Tryz.f66 jA [(jA.res, jA.post)] = true := by kernel_rfl
theorem Rj (hev : aG sh G) (hS : Safe kd ae G) : aV Tryz.prog kd sh B G 66 jA [(jA.res, jA.post)] := aB Tryz.func66 Rs (aA hev hS) (aL oq (Dt hev hS) aJ) hev hS mixed
theorem Q7 : aP Tryz.prog kd aQ (ah aC) (aM [(87, gN, [(gN.res, gN.post)])]) false ae Tryz.f66 lh [(lh.res, lh.post)] = true := by kernel_rfl
theorem Sw (hev : aG sh G) (hS : Safe kd ae G) : aV Tryz.prog kd sh B G 66 lh [(lh.res, lh.post)] := aB Tryz.func66 Q7 (aA hev hS) (aL cZ (KM hev hS) aJ) hev hS mixed
theorem Sy : aP Tryz.prog kd aQ (ah aC) (aM [(87, gK, [(gK.res, gK.post)])]) false ae Tryz.f66 lq [(lq.res, lq.post)] = true := by kernel_rfl
theorem Rv (hev : aG sh G) (hS : Safe kd ae G) : aV Tryz.prog kd sh B G 66 lq [(lq.res, lq.post)] := aB Tryz.func66 Sy (aA hev hS) (aL cZ (Lg hev hS) aJ) hev hS mixed
theorem SI : aP Tryz.prog kd aQ (ah aC) (aM [(87, gL, [(gL.res, gL.post)])]) false ae Tryz.f66 lC [(lC.res, lC.post)] = true := by kernel_rfl
theorem Rx (hev : aG sh G) (hS : Safe kd ae G) : aV Tryz.prog kd sh B G 66 lC [(lC.res, lC.post)] := aB Tryz.func66 SI (aA hev hS) (aL cZ (Lc hev hS) aJ) hev hS mixed
theorem Ra : aP Tryz.prog kd aQ (ah aC) (aM [(87, gM, [(gM.res, gM.post)])]) false ae Tryz.f66 lu [(lu.res, lu.post)] = true := by kernel_rfl
theorem RI (hev : aG sh G) (hS : Safe kd ae G) : aV Tryz.prog kd sh B G 66 lu [(lu.res, lu.post)] := aB Tryz.func66 Ra (aA hev hS) (aL cZ (KR hev hS) aJ) hev hS mixed
theorem Mk : aP Tryz.prog kd aQ (ah aC) (aM [(87, fT, [(fT.res, fT.post)])]) false ae Tryz.f66 jS [(jS.res, jS.post)] = true := by kernel_rfl
theorem Qo (hev : aG sh G) (hS : Safe kd ae G) : aV Tryz.prog kd sh B G 66 jS [(jS.res, jS.post)] := aB Tryz.func66 Mk (aA hev hS) (aL cZ (Ih hev hS) aJ) hev hS mixed
theorem Oy : aP Tryz.prog kd aQ (ah aC) (aM [(87, gy, [(gy.res, gy.post)])]) false ae Tryz.f66 jW [(jW.res, jW.post)] = true := by kernel_rfl
theorem LQ (hev : aG sh G) (hS : Safe kd ae G) : aV Tryz.prog kd sh B G 66 jW [(jW.res, jW.post)] := aB Tryz.func66 Oy (aA hev hS) (aL cZ (Ho hev hS) aJ) hev hS mixed
theorem Ny : aP Tryz.prog kd aQ (ah aC) (aM [(87, fP, [(fP.res, fP.post)])]) false ae Tryz.f66 jP [(jP.res, jP.post)] = true := by kernel_rfl
theorem Qh (hev : aG sh G) (hS : Safe kd ae G) : aV Tryz.prog kd sh B G 66 jP [(jP.res, jP.post)] := aB Tryz.func66 Ny (aA hev hS) (aL cZ (Ji hev hS) aJ) hev hS mixed
theorem OY : aP Tryz.prog kd aQ (ah aC) (aM [(87, gz, [(gz.res, gz.post)])]) false ae Tryz.f66 ky [(ky.res, ky.post)] = true := by kernel_rfl
theorem QG (hev : aG sh G) (hS : Safe kd ae G) : aV Tryz.prog kd sh B G 66 ky [(ky.res, ky.post)] := aB Tryz.func66 OY (aA hev hS) (aL cZ (Jc hev hS) aJ) hev hS mixed
theorem Mc : aP Tryz.prog kd aQ (ah aC) (aM [(87, gq, [(gq.res, gq.post)])]) false ae Tryz.f66 jY [(jY.res, jY.post)] = true := by kernel_rfl
theorem PD (hev : aG sh G) (hS : Safe kd ae G) : aV Tryz.prog kd sh B G 66 jY [(jY.res, jY.post)] := aB Tryz.func66 Mc (aA hev hS) (aL cZ (Hw hev hS) aJ) hev hS mixed
theorem Nn : aP Tryz.prog kd aQ (ah aC) (aM [(87, gp, [(gp.res, gp.post)])]) false ae Tryz.f66 jZ [(jZ.res, jZ.post)] = true := by kernel_rfl
theorem Pf (hev : aG sh G) (hS : Safe kd ae G) : aV Tryz.prog kd sh B G 66 jZ [(jZ.res, jZ.post)] := aB Tryz.func66 Nn (aA hev hS) (aL cZ (Hf hev hS) aJ) hev hS mixed
theorem OD : aP Tryz.prog kd aQ (ah aC) (aM [(87, gm, [(gm.res, gm.post)])]) false ae Tryz.f66 jT [(jT.res, jT.post)] = true := by kernel_rfl
theorem PN (hev : aG sh G) (hS : Safe kd ae G) : aV Tryz.prog kd sh B G 66 jT [(jT.res, jT.post)] := aB Tryz.func66 OD (aA hev hS) (aL cZ (GY hev hS) aJ) hev hS mixed
theorem Pn : aP Tryz.prog kd aQ (ah aC) (aM [(87, gu, [(gu.res, gu.post)])]) false ae Tryz.f66 jM [(jM.res, jM.post)] = true := by kernel_rfl
theorem Mf (hev : aG sh G) (hS : Safe kd ae G) : aV Tryz.prog kd sh B G 66 jM [(jM.res, jM.post)] := aB Tryz.func66 Pn (aA hev hS) (aL cZ (GK hev hS) aJ) hev hS mixed
theorem Ov : aP Tryz.prog kd aQ (ah aC) (aM [(87, fV, [(fV.res, fV.post)])]) false ae Tryz.f66 kv [(kv.res, kv.post)] = true := by kernel_rfl
theorem Nj (hev : aG sh G) (hS : Safe kd ae G) : aV Tryz.prog kd sh B G 66 kv [(kv.res, kv.post)] := aB Tryz.func66 Ov (aA hev hS) (aL cZ (GD hev hS) aJ) hev hS mixed
theorem Np : aP Tryz.prog kd aQ (ah aC) (aM [(87, fZ, [(fZ.res, fZ.post)])]) false ae Tryz.f66 jU [(jU.res, jU.post)] = true := by kernel_rfl
theorem Nf (hev : aG sh G) (hS : Safe kd ae G) : aV Tryz.prog kd sh B G 66 jU [(jU.res, jU.post)] := aB Tryz.func66 Np (aA hev hS) (aL cZ (II hev hS) aJ) hev hS mixed
theorem MG : aP Tryz.prog kd aQ (ah aC) (aM [(87, fU, [(fU.res, fU.post)])]) false ae Tryz.f66 jX [(jX.res, jX.post)] = true := by kernel_rfl
theorem Nz (hev : aG sh G) (hS : Safe kd ae G) : aV Tryz.prog kd sh B G 66 jX [(jX.res, jX.post)] := aB Tryz.func66 MG (aA hev hS) (aL cZ (Hy hev hS) aJ) hev hS mixed
end Go.Proofs.YtncnepmgmphanaaGreatDoor
