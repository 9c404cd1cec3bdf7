/- The frames of the reference by kinds and lines: contracts by types (printed by gen_tc2.py). No condition beside those named. -/
import Derived.Test.YtncnepmgmphanaaGreatDoorTcFns
set_option linter.unusedVariables false
set_option linter.unusedSimpArgs false
set_option linter.unusedSectionVars false
namespace Go.Proofs.YtncnepmgmphanaaGreatDoor
variable {sh : Sh} {B : Nat} {G : World → Prop}
def qR : aj := { aD with pre := [((1, 118, 7), .fB 19)] }
def Dj : aj := ⟨[.ptr 66 0 .env, .ptr 118 0 (.par 1)], .v (.agg af), (aY ++ bC ++ bz ++ bI), 2, [((1, 118, 0), .aN .i64 0)], []⟩
def CY : aj := ⟨[.ptr 66 0 .env, .ptr 118 0 (.par 1), .v (.c (.int .i64)), .v (.c (.int .i64))], .v (.agg af), (aY ++ bC ++ bz ++ bI), 3, [((1, 118, 0), .aN .i64 0)], []⟩
def Cu : aj := ⟨[.ptr 66 0 .env, .ptr 118 0 (.par 1)], .v (.agg af), (aY ++ bC ++ bz ++ bI), 2, [((1, 118, 0), .aN .i64 1)], []⟩
def Em : aj := ⟨[.ptr 66 0 .env, .ptr 118 0 (.par 1), .v (.c (.int .i64)), .v (.c (.int .i64))], .v (.agg af), (aY ++ bC ++ bz ++ bI), 3, [((1, 118, 0), .aN .i64 1)], []⟩
def Db : aj := ⟨[.ptr 66 0 .env, .ptr 118 0 (.par 1)], .v (.agg af), (aY ++ bC ++ bz ++ bI), 2, [((1, 118, 0), .aN .i64 2)], []⟩
def Eh : aj := ⟨[.ptr 66 0 .env, .ptr 118 0 (.par 1), .v (.c (.int .i64)), .v (.c (.int .i64))], .v (.agg af), (aY ++ bC ++ bz ++ bI), 3, [((1, 118, 0), .aN .i64 2)], []⟩
def Cc : aj := ⟨[.ptr 66 0 .env, .ptr 118 0 (.par 1)], .v (.agg af), (aY ++ bC ++ bz ++ bI), 2, [((1, 118, 0), .aN .i64 3)], []⟩
def Dy : aj := ⟨[.ptr 66 0 .env, .ptr 118 0 (.par 1), .v (.c (.int .i64)), .v (.c (.int .i64))], .v (.agg af), (aY ++ bC ++ bz ++ bI), 3, [((1, 118, 0), .aN .i64 3)], []⟩
def Ct : aj := ⟨[.ptr 66 0 .env, .ptr 118 0 (.par 1)], .v (.agg af), (aY ++ bC ++ bz ++ bI), 2, [((1, 118, 0), .aN .i64 4)], []⟩
def DX : aj := ⟨[.ptr 66 0 .env, .ptr 118 0 (.par 1), .v (.c (.int .i64)), .v (.c (.int .i64))], .v (.agg af), (aY ++ bC ++ bz ++ bI), 3, [((1, 118, 0), .aN .i64 4)], []⟩
def Ee : aj := ⟨[.ptr 66 0 .env, .ptr 118 0 (.par 1)], .v (.agg af), (aY ++ bC ++ bz ++ bI), 2, [((1, 118, 0), .aN .i64 5)], []⟩
def Ck : aj := ⟨[.ptr 66 0 .env, .ptr 118 0 (.par 1), .v (.c (.int .i64)), .v (.c (.int .i64))], .v (.agg af), (aY ++ bC ++ bz ++ bI), 3, [((1, 118, 0), .aN .i64 5)], []⟩
def Du : aj := ⟨[.ptr 66 0 .env, .ptr 118 0 (.par 1)], .v (.agg af), (aY ++ bC ++ bz ++ bI), 2, [((1, 118, 0), .aN .i64 6)], []⟩
def Dg : aj := ⟨[.ptr 66 0 .env, .ptr 118 0 (.par 1), .v (.c (.int .i64)), .v (.c (.int .i64))], .v (.agg af), (aY ++ bC ++ bz ++ bI), 3, [((1, 118, 0), .aN .i64 6)], []⟩
def CX : aj := ⟨[.ptr 66 0 .env, .ptr 118 0 (.par 1)], .v (.agg af), (aY ++ bC ++ bz ++ bI), 2, [((1, 118, 0), .aN .i64 7)], []⟩
def DN : aj := ⟨[.ptr 66 0 .env, .ptr 118 0 (.par 1), .v (.c (.int .i64)), .v (.c (.int .i64))], .v (.agg af), (aY ++ bC ++ bz ++ bI), 3, [((1, 118, 0), .aN .i64 7)], []⟩
def BZ : aj := ⟨[.ptr 66 0 .env, .ptr 118 0 (.par 1)], .v (.agg af), (aY ++ bC ++ bz ++ bI), 2, [((1, 118, 0), .aN .i64 8)], []⟩
def DW : aj := ⟨[.ptr 66 0 .env, .ptr 118 0 (.par 1), .v (.c (.int .i64)), .v (.c (.int .i64))], .v (.agg af), (aY ++ bC ++ bz ++ bI), 3, [((1, 118, 0), .aN .i64 8)], []⟩
def Ea : aj := ⟨[.ptr 66 0 .env, .ptr 118 0 (.par 1)], .v (.agg af), (aY ++ bC ++ bz ++ bI), 2, [((1, 118, 0), .aN .i64 9)], []⟩
def Cz : aj := ⟨[.ptr 66 0 .env, .ptr 118 0 (.par 1), .v (.c (.int .i64)), .v (.c (.int .i64))], .v (.agg af), (aY ++ bC ++ bz ++ bI), 3, [((1, 118, 0), .aN .i64 9)], []⟩
def yI : aj := ⟨[.ptr 66 0 .env, .ptr 118 0 (.par 1)], .v (.agg af), (aY ++ bC ++ bz ++ bI), 2, [((1, 118, 0), .aN .i64 10)], []⟩
def xZ : aj := ⟨[.ptr 66 0 .env, .ptr 118 0 (.par 1), .v (.c (.int .i64)), .v (.c (.int .i64))], .v (.agg af), (aY ++ bC ++ bz ++ bI), 3, [((1, 118, 0), .aN .i64 10)], []⟩
def zi : aj := ⟨[.ptr 66 0 .env, .ptr 118 0 (.par 1)], .v (.agg af), (aY ++ bC ++ bz ++ bI), 2, [((1, 118, 0), .aN .i64 11)], []⟩
def z8 : aj := ⟨[.ptr 66 0 .env, .ptr 118 0 (.par 1), .v (.c (.int .i64)), .v (.c (.int .i64))], .v (.agg af), (aY ++ bC ++ bz ++ bI), 3, [((1, 118, 0), .aN .i64 11)], []⟩
def yz : aj := ⟨[.ptr 66 0 .env, .ptr 118 0 (.par 1)], .v (.agg af), (aY ++ bC ++ bz ++ bI), 2, [((1, 118, 0), .aN .i64 12)], []⟩
def yO : aj := ⟨[.ptr 66 0 .env, .ptr 118 0 (.par 1), .v (.c (.int .i64)), .v (.c (.int .i64))], .v (.agg af), (aY ++ bC ++ bz ++ bI), 3, [((1, 118, 0), .aN .i64 12)], []⟩
def yH : aj := ⟨[.ptr 66 0 .env, .ptr 118 0 (.par 1)], .v (.agg af), (aY ++ bC ++ bz ++ bI), 2, [((1, 118, 0), .aN .i64 13)], []⟩
def xh : aj := ⟨[.ptr 66 0 .env, .ptr 118 0 (.par 1), .v (.c (.int .i64)), .v (.c (.int .i64))], .v (.agg af), (aY ++ bC ++ bz ++ bI), 3, [((1, 118, 0), .aN .i64 13)], []⟩
def yf : aj := ⟨[.ptr 66 0 .env, .ptr 118 0 (.par 1)], .v (.agg af), (aY ++ bC ++ bz ++ bI), 2, [((1, 118, 0), .aN .i64 14)], []⟩
def zf : aj := ⟨[.ptr 66 0 .env, .ptr 118 0 (.par 1), .v (.c (.int .i64)), .v (.c (.int .i64))], .v (.agg af), (aY ++ bC ++ bz ++ bI), 3, [((1, 118, 0), .aN .i64 14)], []⟩
def zN : aj := ⟨[.ptr 66 0 .env, .ptr 118 0 (.par 1)], .v (.agg af), (aY ++ bC ++ bz ++ bI), 2, [((1, 118, 0), .aN .i64 15)], []⟩
def zY : aj := ⟨[.ptr 66 0 .env, .ptr 118 0 (.par 1), .v (.c (.int .i64)), .v (.c (.int .i64))], .v (.agg af), (aY ++ bC ++ bz ++ bI), 3, [((1, 118, 0), .aN .i64 15)], []⟩
def xz : aj := ⟨[.ptr 66 0 .env, .ptr 118 0 (.par 1)], .v (.agg af), (aY ++ bC ++ bz ++ bI), 2, [((1, 118, 0), .aN .i64 16)], []⟩
def yU : aj := ⟨[.ptr 66 0 .env, .ptr 118 0 (.par 1), .v (.c (.int .i64)), .v (.c (.int .i64))], .v (.agg af), (aY ++ bC ++ bz ++ bI), 3, [((1, 118, 0), .aN .i64 16)], []⟩
def zJ : aj := ⟨[.ptr 66 0 .env, .ptr 118 0 (.par 1)], .v (.agg af), (aY ++ bC ++ bz ++ bI), 2, [((1, 118, 0), .aN .i64 17)], []⟩
def yA : aj := ⟨[.ptr 66 0 .env, .ptr 118 0 (.par 1), .v (.c (.int .i64)), .v (.c (.int .i64))], .v (.agg af), (aY ++ bC ++ bz ++ bI), 3, [((1, 118, 0), .aN .i64 17)], []⟩
def y9 : aj := ⟨[.ptr 66 0 .env, .ptr 118 0 (.par 1)], .v (.agg af), (aY ++ bC ++ bz ++ bI), 2, [((1, 118, 0), .aN .i64 18)], []⟩
def zS : aj := ⟨[.ptr 66 0 .env, .ptr 118 0 (.par 1), .v (.c (.int .i64)), .v (.c (.int .i64))], .v (.agg af), (aY ++ bC ++ bz ++ bI), 3, [((1, 118, 0), .aN .i64 18)], []⟩
def yx : aj := ⟨[.ptr 66 0 .env, .ptr 118 0 (.par 1)], .v (.agg af), (aY ++ bC ++ bz ++ bI), 2, [((1, 118, 0), .aN .i64 19)], []⟩
def xB : aj := ⟨[.ptr 66 0 .env, .ptr 118 0 (.par 1), .v (.c (.int .i64)), .v (.c (.int .i64))], .v (.agg af), (aY ++ bC ++ bz ++ bI), 3, [((1, 118, 0), .aN .i64 19)], []⟩
def zB : aj := ⟨[.ptr 66 0 .env, .ptr 118 0 (.par 1)], .v (.agg af), (aY ++ bC ++ bz ++ bI), 2, [((1, 118, 0), .aN .i64 20)], []⟩
def zP : aj := ⟨[.ptr 66 0 .env, .ptr 118 0 (.par 1), .v (.c (.int .i64)), .v (.c (.int .i64))], .v (.agg af), (aY ++ bC ++ bz ++ bI), 3, [((1, 118, 0), .aN .i64 20)], []⟩
def yZ : aj := ⟨[.ptr 66 0 .env, .ptr 118 0 (.par 1)], .v (.agg af), (aY ++ bC ++ bz ++ bI), 2, [((1, 118, 0), .aN .i64 21)], []⟩
def zH : aj := ⟨[.ptr 66 0 .env, .ptr 118 0 (.par 1), .v (.c (.int .i64)), .v (.c (.int .i64))], .v (.agg af), (aY ++ bC ++ bz ++ bI), 3, [((1, 118, 0), .aN .i64 21)], []⟩
def y8 : aj := ⟨[.ptr 66 0 .env, .ptr 118 0 (.par 1)], .v (.agg af), (aY ++ bC ++ bz ++ bI), 2, [((1, 118, 0), .aN .i64 22)], []⟩
def yM : aj := ⟨[.ptr 66 0 .env, .ptr 118 0 (.par 1), .v (.c (.int .i64)), .v (.c (.int .i64))], .v (.agg af), (aY ++ bC ++ bz ++ bI), 3, [((1, 118, 0), .aN .i64 22)], []⟩
def yV : aj := ⟨[.ptr 66 0 .env, .ptr 118 0 (.par 1)], .v (.agg af), (aY ++ bC ++ bz ++ bI), 2, [((1, 118, 0), .aN .i64 23)], []⟩
def Af : aj := ⟨[.ptr 66 0 .env, .ptr 118 0 (.par 1), .v (.c (.int .i64)), .v (.c (.int .i64))], .v (.agg af), (aY ++ bC ++ bz ++ bI), 3, [((1, 118, 0), .aN .i64 23)], []⟩
def xG : aj := ⟨[.ptr 66 0 .env, .ptr 118 0 (.par 1)], .v (.agg af), (aY ++ bC ++ bz ++ bI), 2, [((1, 118, 0), .aN .i64 25)], []⟩
def yu : aj := ⟨[.ptr 66 0 .env, .ptr 118 0 (.par 1), .v (.c (.int .i64)), .v (.c (.int .i64))], .v (.agg af), (aY ++ bC ++ bz ++ bI), 3, [((1, 118, 0), .aN .i64 25)], []⟩
def bU : aj := ⟨[.ptr 118 0 (.par 0)], .fB 19, [], 0, [((0, 118, 17), .val 0)], []⟩
def bV : List (Nat × aj) := (156, bU) :: bu
theorem su : au Tryz.prog 156 := aO Tryz.func156 (by kernel_rfl) (by kernel_rfl)
theorem bR (hev : aG sh G) (hS : Safe kd ae G) (ag : TC Tryz.prog kd sh B G 146 aD) (ai : TC Tryz.prog kd sh B G 108 aF) (htop : TC Tryz.prog kd sh B G 156 bU) : ∀ f s, ah bV f = some s → au Tryz.prog f ∧ TC Tryz.prog kd sh B G f s := bn su htop (aX hev hS ag ai)
theorem Vj : aW Tryz.prog kd aQ (ah aC) ae Tryz.f146 qR = true := by kernel_rfl
theorem aa1 (hev : aG sh G) (hS : Safe kd ae G) : TC Tryz.prog kd sh B G 146 qR := aH Tryz.func146 Vj (aA hev hS) hev hS mixed
theorem Yk : aW Tryz.prog kd aQ (ah bu) ae Tryz.f67 Dj = true := by kernel_rfl
theorem aeZ (hev : aG sh G) (hS : Safe kd ae G) (ag : TC Tryz.prog kd sh B G 146 aD) (ai : TC Tryz.prog kd sh B G 108 aF) : TC Tryz.prog kd sh B G 67 Dj := aH Tryz.func67 Yk (aX hev hS ag ai) hev hS mixed
theorem Y9 : aW Tryz.prog kd aQ (ah bu) ae Tryz.f68 CY = true := by kernel_rfl
theorem adk (hev : aG sh G) (hS : Safe kd ae G) (ag : TC Tryz.prog kd sh B G 146 aD) (ai : TC Tryz.prog kd sh B G 108 aF) : TC Tryz.prog kd sh B G 68 CY := aH Tryz.func68 Y9 (aX hev hS ag ai) hev hS mixed
theorem aaP : aW Tryz.prog kd aQ (ah bu) ae Tryz.f67 Cu = true := by kernel_rfl
theorem aeM (hev : aG sh G) (hS : Safe kd ae G) (ag : TC Tryz.prog kd sh B G 146 aD) (ai : TC Tryz.prog kd sh B G 108 aF) : TC Tryz.prog kd sh B G 67 Cu := aH Tryz.func67 aaP (aX hev hS ag ai) hev hS mixed
theorem ZU : aW Tryz.prog kd aQ (ah bu) ae Tryz.f68 Em = true := by kernel_rfl
theorem adJ (hev : aG sh G) (hS : Safe kd ae G) (ag : TC Tryz.prog kd sh B G 146 aD) (ai : TC Tryz.prog kd sh B G 108 aF) : TC Tryz.prog kd sh B G 68 Em := aH Tryz.func68 ZU (aX hev hS ag ai) hev hS mixed
theorem ZE : aW Tryz.prog kd aQ (ah bu) ae Tryz.f67 Db = true := by kernel_rfl
theorem adU (hev : aG sh G) (hS : Safe kd ae G) (ag : TC Tryz.prog kd sh B G 146 aD) (ai : TC Tryz.prog kd sh B G 108 aF) : TC Tryz.prog kd sh B G 67 Db := aH Tryz.func67 ZE (aX hev hS ag ai) hev hS mixed
theorem ab3 : aW Tryz.prog kd aQ (ah bu) ae Tryz.f68 Eh = true := by kernel_rfl
theorem aeJ (hev : aG sh G) (hS : Safe kd ae G) (ag : TC Tryz.prog kd sh B G 146 aD) (ai : TC Tryz.prog kd sh B G 108 aF) : TC Tryz.prog kd sh B G 68 Eh := aH Tryz.func68 ab3 (aX hev hS ag ai) hev hS mixed
theorem Ye : aW Tryz.prog kd aQ (ah bu) ae Tryz.f67 Cc = true := by kernel_rfl
theorem adt (hev : aG sh G) (hS : Safe kd ae G) (ag : TC Tryz.prog kd sh B G 146 aD) (ai : TC Tryz.prog kd sh B G 108 aF) : TC Tryz.prog kd sh B G 67 Cc := aH Tryz.func67 Ye (aX hev hS ag ai) hev hS mixed
theorem Z9 : aW Tryz.prog kd aQ (ah bu) ae Tryz.f68 Dy = true := by kernel_rfl
theorem acW (hev : aG sh G) (hS : Safe kd ae G) (ag : TC Tryz.prog kd sh B G 146 aD) (ai : TC Tryz.prog kd sh B G 108 aF) : TC Tryz.prog kd sh B G 68 Dy := aH Tryz.func68 Z9 (aX hev hS ag ai) hev hS mixed
theorem Yd : aW Tryz.prog kd aQ (ah bu) ae Tryz.f67 Ct = true := by kernel_rfl
theorem adG (hev : aG sh G) (hS : Safe kd ae G) (ag : TC Tryz.prog kd sh B G 146 aD) (ai : TC Tryz.prog kd sh B G 108 aF) : TC Tryz.prog kd sh B G 67 Ct := aH Tryz.func67 Yd (aX hev hS ag ai) hev hS mixed
theorem aau : aW Tryz.prog kd aQ (ah bu) ae Tryz.f68 DX = true := by kernel_rfl
theorem ac0 (hev : aG sh G) (hS : Safe kd ae G) (ag : TC Tryz.prog kd sh B G 146 aD) (ai : TC Tryz.prog kd sh B G 108 aF) : TC Tryz.prog kd sh B G 68 DX := aH Tryz.func68 aau (aX hev hS ag ai) hev hS mixed
theorem abX : aW Tryz.prog kd aQ (ah bu) ae Tryz.f67 Ee = true := by kernel_rfl
theorem aeL (hev : aG sh G) (hS : Safe kd ae G) (ag : TC Tryz.prog kd sh B G 146 aD) (ai : TC Tryz.prog kd sh B G 108 aF) : TC Tryz.prog kd sh B G 67 Ee := aH Tryz.func67 abX (aX hev hS ag ai) hev hS mixed
theorem YO : aW Tryz.prog kd aQ (ah bu) ae Tryz.f68 Ck = true := by kernel_rfl
theorem aef (hev : aG sh G) (hS : Safe kd ae G) (ag : TC Tryz.prog kd sh B G 146 aD) (ai : TC Tryz.prog kd sh B G 108 aF) : TC Tryz.prog kd sh B G 68 Ck := aH Tryz.func68 YO (aX hev hS ag ai) hev hS mixed
theorem Zk : aW Tryz.prog kd aQ (ah bu) ae Tryz.f67 Du = true := by kernel_rfl
theorem adg (hev : aG sh G) (hS : Safe kd ae G) (ag : TC Tryz.prog kd sh B G 146 aD) (ai : TC Tryz.prog kd sh B G 108 aF) : TC Tryz.prog kd sh B G 67 Du := aH Tryz.func67 Zk (aX hev hS ag ai) hev hS mixed
theorem Yp : aW Tryz.prog kd aQ (ah bu) ae Tryz.f68 Dg = true := by kernel_rfl
theorem ac3 (hev : aG sh G) (hS : Safe kd ae G) (ag : TC Tryz.prog kd sh B G 146 aD) (ai : TC Tryz.prog kd sh B G 108 aF) : TC Tryz.prog kd sh B G 68 Dg := aH Tryz.func68 Yp (aX hev hS ag ai) hev hS mixed
theorem ab8 : aW Tryz.prog kd aQ (ah bu) ae Tryz.f67 CX = true := by kernel_rfl
theorem aeO (hev : aG sh G) (hS : Safe kd ae G) (ag : TC Tryz.prog kd sh B G 146 aD) (ai : TC Tryz.prog kd sh B G 108 aF) : TC Tryz.prog kd sh B G 67 CX := aH Tryz.func67 ab8 (aX hev hS ag ai) hev hS mixed
theorem YA : aW Tryz.prog kd aQ (ah bu) ae Tryz.f68 DN = true := by kernel_rfl
theorem ad4 (hev : aG sh G) (hS : Safe kd ae G) (ag : TC Tryz.prog kd sh B G 146 aD) (ai : TC Tryz.prog kd sh B G 108 aF) : TC Tryz.prog kd sh B G 68 DN := aH Tryz.func68 YA (aX hev hS ag ai) hev hS mixed
theorem Yw : aW Tryz.prog kd aQ (ah bu) ae Tryz.f67 BZ = true := by kernel_rfl
theorem ae7 (hev : aG sh G) (hS : Safe kd ae G) (ag : TC Tryz.prog kd sh B G 146 aD) (ai : TC Tryz.prog kd sh B G 108 aF) : TC Tryz.prog kd sh B G 67 BZ := aH Tryz.func67 Yw (aX hev hS ag ai) hev hS mixed
theorem Zg : aW Tryz.prog kd aQ (ah bu) ae Tryz.f68 DW = true := by kernel_rfl
theorem aeK (hev : aG sh G) (hS : Safe kd ae G) (ag : TC Tryz.prog kd sh B G 146 aD) (ai : TC Tryz.prog kd sh B G 108 aF) : TC Tryz.prog kd sh B G 68 DW := aH Tryz.func68 Zg (aX hev hS ag ai) hev hS mixed
theorem abu : aW Tryz.prog kd aQ (ah bu) ae Tryz.f67 Ea = true := by kernel_rfl
theorem adh (hev : aG sh G) (hS : Safe kd ae G) (ag : TC Tryz.prog kd sh B G 146 aD) (ai : TC Tryz.prog kd sh B G 108 aF) : TC Tryz.prog kd sh B G 67 Ea := aH Tryz.func67 abu (aX hev hS ag ai) hev hS mixed
theorem Zr : aW Tryz.prog kd aQ (ah bu) ae Tryz.f68 Cz = true := by kernel_rfl
theorem ad7 (hev : aG sh G) (hS : Safe kd ae G) (ag : TC Tryz.prog kd sh B G 146 aD) (ai : TC Tryz.prog kd sh B G 108 aF) : TC Tryz.prog kd sh B G 68 Cz := aH Tryz.func68 Zr (aX hev hS ag ai) hev hS mixed
theorem UW : aW Tryz.prog kd aQ (ah bu) ae Tryz.f67 yI = true := by kernel_rfl
theorem aaK (hev : aG sh G) (hS : Safe kd ae G) (ag : TC Tryz.prog kd sh B G 146 aD) (ai : TC Tryz.prog kd sh B G 108 aF) : TC Tryz.prog kd sh B G 67 yI := aH Tryz.func67 UW (aX hev hS ag ai) hev hS mixed
theorem XV : aW Tryz.prog kd aQ (ah bu) ae Tryz.f68 xZ = true := by kernel_rfl
theorem Zx (hev : aG sh G) (hS : Safe kd ae G) (ag : TC Tryz.prog kd sh B G 146 aD) (ai : TC Tryz.prog kd sh B G 108 aF) : TC Tryz.prog kd sh B G 68 xZ := aH Tryz.func68 XV (aX hev hS ag ai) hev hS mixed
theorem XM : aW Tryz.prog kd aQ (ah bu) ae Tryz.f67 zi = true := by kernel_rfl
theorem ZZ (hev : aG sh G) (hS : Safe kd ae G) (ag : TC Tryz.prog kd sh B G 146 aD) (ai : TC Tryz.prog kd sh B G 108 aF) : TC Tryz.prog kd sh B G 67 zi := aH Tryz.func67 XM (aX hev hS ag ai) hev hS mixed
theorem Vb : aW Tryz.prog kd aQ (ah bu) ae Tryz.f68 z8 = true := by kernel_rfl
theorem Zp (hev : aG sh G) (hS : Safe kd ae G) (ag : TC Tryz.prog kd sh B G 146 aD) (ai : TC Tryz.prog kd sh B G 108 aF) : TC Tryz.prog kd sh B G 68 z8 := aH Tryz.func68 Vb (aX hev hS ag ai) hev hS mixed
theorem Xt : aW Tryz.prog kd aQ (ah bu) ae Tryz.f67 yz = true := by kernel_rfl
theorem Y0 (hev : aG sh G) (hS : Safe kd ae G) (ag : TC Tryz.prog kd sh B G 146 aD) (ai : TC Tryz.prog kd sh B G 108 aF) : TC Tryz.prog kd sh B G 67 yz := aH Tryz.func67 Xt (aX hev hS ag ai) hev hS mixed
theorem Va : aW Tryz.prog kd aQ (ah bu) ae Tryz.f68 yO = true := by kernel_rfl
theorem aaO (hev : aG sh G) (hS : Safe kd ae G) (ag : TC Tryz.prog kd sh B G 146 aD) (ai : TC Tryz.prog kd sh B G 108 aF) : TC Tryz.prog kd sh B G 68 yO := aH Tryz.func68 Va (aX hev hS ag ai) hev hS mixed
theorem UN : aW Tryz.prog kd aQ (ah bu) ae Tryz.f67 yH = true := by kernel_rfl
theorem YD (hev : aG sh G) (hS : Safe kd ae G) (ag : TC Tryz.prog kd sh B G 146 aD) (ai : TC Tryz.prog kd sh B G 108 aF) : TC Tryz.prog kd sh B G 67 yH := aH Tryz.func67 UN (aX hev hS ag ai) hev hS mixed
theorem UB : aW Tryz.prog kd aQ (ah bu) ae Tryz.f68 xh = true := by kernel_rfl
theorem Zc (hev : aG sh G) (hS : Safe kd ae G) (ag : TC Tryz.prog kd sh B G 146 aD) (ai : TC Tryz.prog kd sh B G 108 aF) : TC Tryz.prog kd sh B G 68 xh := aH Tryz.func68 UB (aX hev hS ag ai) hev hS mixed
theorem UC : aW Tryz.prog kd aQ (ah bu) ae Tryz.f67 yf = true := by kernel_rfl
theorem YH (hev : aG sh G) (hS : Safe kd ae G) (ag : TC Tryz.prog kd sh B G 146 aD) (ai : TC Tryz.prog kd sh B G 108 aF) : TC Tryz.prog kd sh B G 67 yf := aH Tryz.func67 UC (aX hev hS ag ai) hev hS mixed
theorem WG : aW Tryz.prog kd aQ (ah bu) ae Tryz.f68 zf = true := by kernel_rfl
theorem abY (hev : aG sh G) (hS : Safe kd ae G) (ag : TC Tryz.prog kd sh B G 146 aD) (ai : TC Tryz.prog kd sh B G 108 aF) : TC Tryz.prog kd sh B G 68 zf := aH Tryz.func68 WG (aX hev hS ag ai) hev hS mixed
theorem XQ : aW Tryz.prog kd aQ (ah bu) ae Tryz.f67 zN = true := by kernel_rfl
theorem ZT (hev : aG sh G) (hS : Safe kd ae G) (ag : TC Tryz.prog kd sh B G 146 aD) (ai : TC Tryz.prog kd sh B G 108 aF) : TC Tryz.prog kd sh B G 67 zN := aH Tryz.func67 XQ (aX hev hS ag ai) hev hS mixed
theorem VO : aW Tryz.prog kd aQ (ah bu) ae Tryz.f68 zY = true := by kernel_rfl
theorem aah (hev : aG sh G) (hS : Safe kd ae G) (ag : TC Tryz.prog kd sh B G 146 aD) (ai : TC Tryz.prog kd sh B G 108 aF) : TC Tryz.prog kd sh B G 68 zY := aH Tryz.func68 VO (aX hev hS ag ai) hev hS mixed
theorem UT : aW Tryz.prog kd aQ (ah bu) ae Tryz.f67 xz = true := by kernel_rfl
theorem YT (hev : aG sh G) (hS : Safe kd ae G) (ag : TC Tryz.prog kd sh B G 146 aD) (ai : TC Tryz.prog kd sh B G 108 aF) : TC Tryz.prog kd sh B G 67 xz := aH Tryz.func67 UT (aX hev hS ag ai) hev hS mixed
theorem Xr : aW Tryz.prog kd aQ (ah bu) ae Tryz.f68 yU = true := by kernel_rfl
theorem aaA (hev : aG sh G) (hS : Safe kd ae G) (ag : TC Tryz.prog kd sh B G 146 aD) (ai : TC Tryz.prog kd sh B G 108 aF) : TC Tryz.prog kd sh B G 68 yU := aH Tryz.func68 Xr (aX hev hS ag ai) hev hS mixed
theorem We : aW Tryz.prog kd aQ (ah bu) ae Tryz.f67 zJ = true := by kernel_rfl
theorem abq (hev : aG sh G) (hS : Safe kd ae G) (ag : TC Tryz.prog kd sh B G 146 aD) (ai : TC Tryz.prog kd sh B G 108 aF) : TC Tryz.prog kd sh B G 67 zJ := aH Tryz.func67 We (aX hev hS ag ai) hev hS mixed
theorem Xo : aW Tryz.prog kd aQ (ah bu) ae Tryz.f68 yA = true := by kernel_rfl
theorem Yr (hev : aG sh G) (hS : Safe kd ae G) (ag : TC Tryz.prog kd sh B G 146 aD) (ai : TC Tryz.prog kd sh B G 108 aF) : TC Tryz.prog kd sh B G 68 yA := aH Tryz.func68 Xo (aX hev hS ag ai) hev hS mixed
theorem Vh : aW Tryz.prog kd aQ (ah bu) ae Tryz.f67 y9 = true := by kernel_rfl
theorem aaI (hev : aG sh G) (hS : Safe kd ae G) (ag : TC Tryz.prog kd sh B G 146 aD) (ai : TC Tryz.prog kd sh B G 108 aF) : TC Tryz.prog kd sh B G 67 y9 := aH Tryz.func67 Vh (aX hev hS ag ai) hev hS mixed
theorem Vv : aW Tryz.prog kd aQ (ah bu) ae Tryz.f68 zS = true := by kernel_rfl
theorem ZH (hev : aG sh G) (hS : Safe kd ae G) (ag : TC Tryz.prog kd sh B G 146 aD) (ai : TC Tryz.prog kd sh B G 108 aF) : TC Tryz.prog kd sh B G 68 zS := aH Tryz.func68 Vv (aX hev hS ag ai) hev hS mixed
theorem WH : aW Tryz.prog kd aQ (ah bu) ae Tryz.f67 yx = true := by kernel_rfl
theorem ace (hev : aG sh G) (hS : Safe kd ae G) (ag : TC Tryz.prog kd sh B G 146 aD) (ai : TC Tryz.prog kd sh B G 108 aF) : TC Tryz.prog kd sh B G 67 yx := aH Tryz.func67 WH (aX hev hS ag ai) hev hS mixed
theorem XO : aW Tryz.prog kd aQ (ah bu) ae Tryz.f68 xB = true := by kernel_rfl
theorem Zy (hev : aG sh G) (hS : Safe kd ae G) (ag : TC Tryz.prog kd sh B G 146 aD) (ai : TC Tryz.prog kd sh B G 108 aF) : TC Tryz.prog kd sh B G 68 xB := aH Tryz.func68 XO (aX hev hS ag ai) hev hS mixed
theorem XH : aW Tryz.prog kd aQ (ah bu) ae Tryz.f67 zB = true := by kernel_rfl
theorem YQ (hev : aG sh G) (hS : Safe kd ae G) (ag : TC Tryz.prog kd sh B G 146 aD) (ai : TC Tryz.prog kd sh B G 108 aF) : TC Tryz.prog kd sh B G 67 zB := aH Tryz.func67 XH (aX hev hS ag ai) hev hS mixed
theorem WA : aW Tryz.prog kd aQ (ah bu) ae Tryz.f68 zP = true := by kernel_rfl
theorem aao (hev : aG sh G) (hS : Safe kd ae G) (ag : TC Tryz.prog kd sh B G 146 aD) (ai : TC Tryz.prog kd sh B G 108 aF) : TC Tryz.prog kd sh B G 68 zP := aH Tryz.func68 WA (aX hev hS ag ai) hev hS mixed
theorem Wz : aW Tryz.prog kd aQ (ah bu) ae Tryz.f67 yZ = true := by kernel_rfl
theorem Y4 (hev : aG sh G) (hS : Safe kd ae G) (ag : TC Tryz.prog kd sh B G 146 aD) (ai : TC Tryz.prog kd sh B G 108 aF) : TC Tryz.prog kd sh B G 67 yZ := aH Tryz.func67 Wz (aX hev hS ag ai) hev hS mixed
theorem Xl : aW Tryz.prog kd aQ (ah bu) ae Tryz.f68 zH = true := by kernel_rfl
theorem aaz (hev : aG sh G) (hS : Safe kd ae G) (ag : TC Tryz.prog kd sh B G 146 aD) (ai : TC Tryz.prog kd sh B G 108 aF) : TC Tryz.prog kd sh B G 68 zH := aH Tryz.func68 Xl (aX hev hS ag ai) hev hS mixed
theorem VL : aW Tryz.prog kd aQ (ah bu) ae Tryz.f67 y8 = true := by kernel_rfl
theorem ZC (hev : aG sh G) (hS : Safe kd ae G) (ag : TC Tryz.prog kd sh B G 146 aD) (ai : TC Tryz.prog kd sh B G 108 aF) : TC Tryz.prog kd sh B G 67 y8 := aH Tryz.func67 VL (aX hev hS ag ai) hev hS mixed
theorem XL : aW Tryz.prog kd aQ (ah bu) ae Tryz.f68 yM = true := by kernel_rfl
theorem YY (hev : aG sh G) (hS : Safe kd ae G) (ag : TC Tryz.prog kd sh B G 146 aD) (ai : TC Tryz.prog kd sh B G 108 aF) : TC Tryz.prog kd sh B G 68 yM := aH Tryz.func68 XL (aX hev hS ag ai) hev hS mixed
theorem VJ : aW Tryz.prog kd aQ (ah bu) ae Tryz.f67 yV = true := by kernel_rfl
theorem YI (hev : aG sh G) (hS : Safe kd ae G) (ag : TC Tryz.prog kd sh B G 146 aD) (ai : TC Tryz.prog kd sh B G 108 aF) : TC Tryz.prog kd sh B G 67 yV := aH Tryz.func67 VJ (aX hev hS ag ai) hev hS mixed
theorem U7 : aW Tryz.prog kd aQ (ah bu) ae Tryz.f68 Af = true := by kernel_rfl
theorem acr (hev : aG sh G) (hS : Safe kd ae G) (ag : TC Tryz.prog kd sh B G 146 aD) (ai : TC Tryz.prog kd sh B G 108 aF) : TC Tryz.prog kd sh B G 68 Af := aH Tryz.func68 U7 (aX hev hS ag ai) hev hS mixed
theorem Xa : aW Tryz.prog kd aQ (ah bu) ae Tryz.f67 xG = true := by kernel_rfl
theorem acd (hev : aG sh G) (hS : Safe kd ae G) (ag : TC Tryz.prog kd sh B G 146 aD) (ai : TC Tryz.prog kd sh B G 108 aF) : TC Tryz.prog kd sh B G 67 xG := aH Tryz.func67 Xa (aX hev hS ag ai) hev hS mixed
theorem VC : aW Tryz.prog kd aQ (ah bu) ae Tryz.f68 yu = true := by kernel_rfl
theorem abS (hev : aG sh G) (hS : Safe kd ae G) (ag : TC Tryz.prog kd sh B G 146 aD) (ai : TC Tryz.prog kd sh B G 108 aF) : TC Tryz.prog kd sh B G 68 yu := aH Tryz.func68 VC (aX hev hS ag ai) hev hS mixed
end Go.Proofs.YtncnepmgmphanaaGreatDoor
