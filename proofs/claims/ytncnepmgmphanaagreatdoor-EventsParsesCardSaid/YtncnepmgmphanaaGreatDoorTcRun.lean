/- What a frame enters, by kinds; the lines of a Run frame; the client (printed by gen_tc3.py). No condition beside those named. -/
import Derived.Test.YtncnepmgmphanaaGreatDoorTcKinds
import Derived.Test.YtncnepmgmphanaaGreatDoorTcR
set_option linter.unusedVariables false
set_option linter.unusedSimpArgs false
set_option linter.unusedSectionVars false
namespace Go.Proofs.YtncnepmgmphanaaGreatDoor
variable {sh : Sh} {B : Nat} {G : World → Prop}
def zx (ln : Int) : AT × Hm := (.v (.ak af [0]), [((1, 118, 1), .aN .i64 ln), ((1, 118, 17), .val 0)])
def zC : AT × Hm := (.v (.ak af [0]), [((1, 118, 1), .aN .i64 1), ((1, 118, 17), .oL 3 1)])
def WZ : AT × Hm := (.v (.ak af [1]), [])
def ah1 : AT × Hm := (.v (.ak af [0]), [((1, 118, 1), .aN .i64 1), ((1, 118, 17), .val 1)])
def LC : List Int := [1, 7, 8, 9, 11, 12, 13, 14, 15, 16, 18, 19, 20, 21, 22]
def bA : List (AT × Hm) := WZ :: zC :: ah1 :: LC.map zx
def dh : List (AT × Hm) := WZ :: zC :: LC.map zx
def fC : List (AT × Hm) := [WZ, (.v (.ak af [0]), [((1, 118, 9), .fB 10)]), (.v (.ak af [0]), [((1, 118, 9), .pos .i64)])]
def bS : aj := ⟨[.v (.c (.int .i64)), .v (.c (.int .i64))], .v (.ak af [1]), [], 0, [], []⟩
def bP : aj := ⟨[.ptr 118 0 (.par 0)], .bX [.ak ax [8, 11, 5, 9, 20, 0], .c .bool], [], 0, [], []⟩
def eX : aj := ⟨[.ptr 66 0 .env, .ptr 118 0 (.par 1)], .bX [.ak ax [18, 23, 22, 21, 2, 14, 19, 4], .bk true], [.par 1 118 1], 1, [((1, 118, 1), .ne .i64 7)], []⟩
def eQ : aj := ⟨[.ptr 66 0 .env, .ptr 118 0 (.par 1)], .bX [.ak ax [12], .bk true], [], 0, [((1, 118, 1), .aN .i64 3), ((1, 118, 9), .fB 10)], []⟩
def eU : aj := ⟨[.ptr 66 0 .env, .ptr 118 0 (.par 1)], .bX [.ak ax [7, 10, 9, 20, 0], .c .bool], [], 0, [((1, 118, 1), .ne .i64 3), ((1, 118, 9), .fB 10)], []⟩
def eY : aj := ⟨[.ptr 66 0 .env, .ptr 118 0 (.par 1)], .bX [.ak ax [0], .bk false], [], 0, [((1, 118, 9), .wN 10)], []⟩
def jD : aj := ⟨[.ptr 66 0 .env, .ptr 118 0 (.par 1)], .bX [.ak ax [0], .bk false], [], 0, [((1, 118, 0), .aN .i64 26), ((1, 118, 9), .wN 10)], []⟩
def lH : aj := ⟨[.ptr 66 0 .env, .ptr 118 0 (.par 1)], .bX [], [], 0, [((1, 118, 1), .aN .i64 6)], []⟩
def lJ : aj := ⟨[.ptr 66 0 .env, .ptr 118 0 (.par 1)], .bX [], [], 0, [((1, 118, 1), .aN .i64 7)], []⟩
def lg : aj := ⟨[.ptr 66 0 .env, .ptr 118 0 (.par 1)], .bX [], [], 0, [((1, 118, 1), .aN .i64 8)], []⟩
def lG : aj := ⟨[.ptr 66 0 .env, .ptr 118 0 (.par 1)], .bX [], [], 0, [((1, 118, 1), .aN .i64 9)], []⟩
def ku : aj := ⟨[.ptr 66 0 .env, .ptr 118 0 (.par 1)], .bX [], [], 0, [((1, 118, 1), .aN .i64 11)], []⟩
def jV : aj := ⟨[.ptr 66 0 .env, .ptr 118 0 (.par 1)], .bX [], [], 0, [((1, 118, 1), .aN .i64 12)], []⟩
def jK : aj := ⟨[.ptr 66 0 .env, .ptr 118 0 (.par 1)], .bX [], [], 0, [((1, 118, 1), .aN .i64 13)], []⟩
def jO : aj := ⟨[.ptr 66 0 .env, .ptr 118 0 (.par 1)], .bX [], [], 0, [((1, 118, 1), .aN .i64 14)], []⟩
def j4 : aj := ⟨[.ptr 66 0 .env, .ptr 118 0 (.par 1)], .bX [], [], 0, [((1, 118, 1), .aN .i64 15)], []⟩
def jN : aj := ⟨[.ptr 66 0 .env, .ptr 118 0 (.par 1)], .bX [], [], 0, [((1, 118, 1), .aN .i64 16)], []⟩
def j6 : aj := ⟨[.ptr 66 0 .env, .ptr 118 0 (.par 1)], .bX [], [], 0, [((1, 118, 1), .aN .i64 18)], []⟩
def jQ : aj := ⟨[.ptr 66 0 .env, .ptr 118 0 (.par 1)], .bX [], [], 0, [((1, 118, 1), .aN .i64 19)], []⟩
def kg : aj := ⟨[.ptr 66 0 .env, .ptr 118 0 (.par 1)], .bX [], [], 0, [((1, 118, 1), .aN .i64 20)], []⟩
def jR : aj := ⟨[.ptr 66 0 .env, .ptr 118 0 (.par 1)], .bX [], [], 0, [((1, 118, 1), .aN .i64 21)], []⟩
def jL : aj := ⟨[.ptr 66 0 .env, .ptr 118 0 (.par 1)], .bX [], [], 0, [((1, 118, 1), .aN .i64 22)], []⟩
def gN : aj := ⟨[.ptr 66 0 .env, .ptr 118 0 (.par 1)], .bX [.ak ax [13], .bk true], [], 0, [((1, 118, 1), .aN .i64 6)], []⟩
def gK : aj := ⟨[.ptr 66 0 .env, .ptr 118 0 (.par 1)], .bX [.ak ax [5], .bk true], [], 0, [((1, 118, 1), .aN .i64 7)], []⟩
def gL : aj := ⟨[.ptr 66 0 .env, .ptr 118 0 (.par 1)], .bX [.ak ax [20], .bk true], [], 0, [((1, 118, 1), .aN .i64 8)], []⟩
def gM : aj := ⟨[.ptr 66 0 .env, .ptr 118 0 (.par 1)], .bX [.ak ax [14], .bk true], [], 0, [((1, 118, 1), .aN .i64 9)], []⟩
def fT : aj := ⟨[.ptr 66 0 .env, .ptr 118 0 (.par 1)], .bX [.ak ax [0], .bk false], [], 0, [((1, 118, 1), .aN .i64 11)], []⟩
def gy : aj := ⟨[.ptr 66 0 .env, .ptr 118 0 (.par 1)], .bX [.ak ax [0], .bk false], [], 0, [((1, 118, 1), .aN .i64 12)], []⟩
def fP : aj := ⟨[.ptr 66 0 .env, .ptr 118 0 (.par 1)], .bX [.ak ax [0], .bk false], [], 0, [((1, 118, 1), .aN .i64 13)], []⟩
def gz : aj := ⟨[.ptr 66 0 .env, .ptr 118 0 (.par 1)], .bX [.ak ax [17], .bk true], [], 0, [((1, 118, 1), .aN .i64 14)], []⟩
def gq : aj := ⟨[.ptr 66 0 .env, .ptr 118 0 (.par 1)], .bX [.ak ax [0], .bk false], [], 0, [((1, 118, 1), .aN .i64 15)], []⟩
def gp : aj := ⟨[.ptr 66 0 .env, .ptr 118 0 (.par 1)], .bX [.ak ax [0], .bk false], [], 0, [((1, 118, 1), .aN .i64 16)], []⟩
def gm : aj := ⟨[.ptr 66 0 .env, .ptr 118 0 (.par 1)], .bX [.ak ax [0], .bk false], [], 0, [((1, 118, 1), .aN .i64 18)], []⟩
def gu : aj := ⟨[.ptr 66 0 .env, .ptr 118 0 (.par 1)], .bX [.ak ax [0], .bk false], [], 0, [((1, 118, 1), .aN .i64 19)], []⟩
def fV : aj := ⟨[.ptr 66 0 .env, .ptr 118 0 (.par 1)], .bX [.ak ax [15], .bk true], [], 0, [((1, 118, 1), .aN .i64 20)], []⟩
def fZ : aj := ⟨[.ptr 66 0 .env, .ptr 118 0 (.par 1)], .bX [.ak ax [20], .bk true], [], 0, [((1, 118, 1), .aN .i64 21)], []⟩
def fU : aj := ⟨[.ptr 66 0 .env, .ptr 118 0 (.par 1)], .bX [.ak ax [14], .bk true], [], 0, [((1, 118, 1), .aN .i64 22)], []⟩
def qz : aj := ⟨[.ptr 66 0 .env, .ptr 118 0 (.par 1)], .bX [.ak ax [0], .bk false], [], 0, [((1, 118, 0), .aN .i64 0)], []⟩
def qE : aj := ⟨[.ptr 66 0 .env, .ptr 118 0 (.par 1)], .bX [.ak ax [0], .bk false], [], 0, [((1, 118, 0), .aN .i64 1)], []⟩
def qC : aj := ⟨[.ptr 66 0 .env, .ptr 118 0 (.par 1)], .bX [.ak ax [0], .bk false], [], 0, [((1, 118, 0), .aN .i64 2)], []⟩
def qm : aj := ⟨[.ptr 66 0 .env, .ptr 118 0 (.par 1)], .bX [.ak ax [0], .bk false], [], 0, [((1, 118, 0), .aN .i64 3)], []⟩
def qw : aj := ⟨[.ptr 66 0 .env, .ptr 118 0 (.par 1)], .bX [.ak ax [0], .bk false], [], 0, [((1, 118, 0), .aN .i64 4)], []⟩
def qj : aj := ⟨[.ptr 66 0 .env, .ptr 118 0 (.par 1)], .bX [.ak ax [0], .bk false], [], 0, [((1, 118, 0), .aN .i64 7)], []⟩
def qG : aj := ⟨[.ptr 66 0 .env, .ptr 118 0 (.par 1)], .bX [.ak ax [0], .bk false], [], 0, [((1, 118, 0), .aN .i64 8)], []⟩
def qA : aj := ⟨[.ptr 66 0 .env, .ptr 118 0 (.par 1)], .bX [.ak ax [0], .bk false], [], 0, [((1, 118, 0), .aN .i64 9)], []⟩
def om : aj := ⟨[.ptr 66 0 .env, .ptr 118 0 (.par 1)], .bX [.ak ax [0], .bk false], [], 0, [((1, 118, 0), .aN .i64 10)], []⟩
def ou : aj := ⟨[.ptr 66 0 .env, .ptr 118 0 (.par 1)], .bX [.ak ax [0], .bk false], [], 0, [((1, 118, 0), .aN .i64 11)], []⟩
def nN : aj := ⟨[.ptr 66 0 .env, .ptr 118 0 (.par 1)], .bX [.ak ax [0], .bk false], [], 0, [((1, 118, 0), .aN .i64 12)], []⟩
def nR : aj := ⟨[.ptr 66 0 .env, .ptr 118 0 (.par 1)], .bX [.ak ax [0], .bk false], [], 0, [((1, 118, 0), .aN .i64 13)], []⟩
def nO : aj := ⟨[.ptr 66 0 .env, .ptr 118 0 (.par 1)], .bX [.ak ax [0], .bk false], [], 0, [((1, 118, 0), .aN .i64 14)], []⟩
def nT : aj := ⟨[.ptr 66 0 .env, .ptr 118 0 (.par 1)], .bX [.ak ax [0], .bk false], [], 0, [((1, 118, 0), .aN .i64 16)], []⟩
def nV : aj := ⟨[.ptr 66 0 .env, .ptr 118 0 (.par 1)], .bX [.ak ax [0], .bk false], [], 0, [((1, 118, 0), .aN .i64 19)], []⟩
def nU : aj := ⟨[.ptr 66 0 .env, .ptr 118 0 (.par 1)], .bX [.ak ax [0], .bk false], [], 0, [((1, 118, 0), .aN .i64 20)], []⟩
def og : aj := ⟨[.ptr 66 0 .env, .ptr 118 0 (.par 1)], .bX [.ak ax [0], .bk false], [], 0, [((1, 118, 0), .aN .i64 21)], []⟩
def ql : aj := ⟨[.ptr 66 0 .env, .ptr 118 0 (.par 1)], .bX [.ak ax [0, 3], .c .bool], [], 0, [((1, 118, 0), .aN .i64 5)], []⟩
def qp : aj := ⟨[.ptr 66 0 .env, .ptr 118 0 (.par 1)], .bX [.ak ax [1, 4, 0], .c .bool], [], 0, [((1, 118, 0), .aN .i64 6)], []⟩
def ow : aj := ⟨[.ptr 66 0 .env, .ptr 118 0 (.par 1)], .bX [.ak ax [5, 0], .c .bool], [], 0, [((1, 118, 0), .aN .i64 15)], []⟩
def nQ : aj := ⟨[.ptr 66 0 .env, .ptr 118 0 (.par 1)], .bX [.ak ax [16, 5, 0], .c .bool], [], 0, [((1, 118, 0), .aN .i64 17)], []⟩
def nZ : aj := ⟨[.ptr 66 0 .env, .ptr 118 0 (.par 1)], .bX [.ak ax [5, 0], .c .bool], [], 0, [((1, 118, 0), .aN .i64 18)], []⟩
def nW : aj := ⟨[.ptr 66 0 .env, .ptr 118 0 (.par 1)], .bX [.ak ax [8, 11, 5, 9, 20, 0], .c .bool], [], 0, [((1, 118, 0), .aN .i64 22)], []⟩
def nM : aj := ⟨[.ptr 66 0 .env, .ptr 118 0 (.par 1)], .bX [.ak ax [6, 14], .c .bool], [], 0, [((1, 118, 0), .aN .i64 23)], []⟩
def oo : aj := ⟨[.ptr 66 0 .env, .ptr 118 0 (.par 1)], .bX [.ak ax [18, 23, 22, 21, 2, 14, 19, 4], .bk true], [.par 1 118 1], 1, [((1, 118, 0), .aN .i64 25), ((1, 118, 1), .ne .i64 7)], []⟩
def jB : aj := ⟨[.ptr 66 0 .env, .ptr 118 0 (.par 1)], .bX [.ak ax [12], .bk true], [], 0, [((1, 118, 0), .aN .i64 26), ((1, 118, 1), .aN .i64 3), ((1, 118, 9), .fB 10)], []⟩
def jA : aj := ⟨[.ptr 66 0 .env, .ptr 118 0 (.par 1)], .bX [.ak ax [7, 10, 9, 20, 0], .c .bool], [], 0, [((1, 118, 0), .aN .i64 26), ((1, 118, 1), .ne .i64 3), ((1, 118, 9), .fB 10)], []⟩
def lh : aj := ⟨[.ptr 66 0 .env, .ptr 118 0 (.par 1)], .bX [.ak ax [13], .bk true], [], 0, [((1, 118, 0), .aN .i64 24), ((1, 118, 1), .aN .i64 6)], []⟩
def lq : aj := ⟨[.ptr 66 0 .env, .ptr 118 0 (.par 1)], .bX [.ak ax [5], .bk true], [], 0, [((1, 118, 0), .aN .i64 24), ((1, 118, 1), .aN .i64 7)], []⟩
def lC : aj := ⟨[.ptr 66 0 .env, .ptr 118 0 (.par 1)], .bX [.ak ax [20], .bk true], [], 0, [((1, 118, 0), .aN .i64 24), ((1, 118, 1), .aN .i64 8)], []⟩
def lu : aj := ⟨[.ptr 66 0 .env, .ptr 118 0 (.par 1)], .bX [.ak ax [14], .bk true], [], 0, [((1, 118, 0), .aN .i64 24), ((1, 118, 1), .aN .i64 9)], []⟩
def jS : aj := ⟨[.ptr 66 0 .env, .ptr 118 0 (.par 1)], .bX [.ak ax [0], .bk false], [], 0, [((1, 118, 0), .aN .i64 24), ((1, 118, 1), .aN .i64 11)], []⟩
def jW : aj := ⟨[.ptr 66 0 .env, .ptr 118 0 (.par 1)], .bX [.ak ax [0], .bk false], [], 0, [((1, 118, 0), .aN .i64 24), ((1, 118, 1), .aN .i64 12)], []⟩
def jP : aj := ⟨[.ptr 66 0 .env, .ptr 118 0 (.par 1)], .bX [.ak ax [0], .bk false], [], 0, [((1, 118, 0), .aN .i64 24), ((1, 118, 1), .aN .i64 13)], []⟩
def ky : aj := ⟨[.ptr 66 0 .env, .ptr 118 0 (.par 1)], .bX [.ak ax [17], .bk true], [], 0, [((1, 118, 0), .aN .i64 24), ((1, 118, 1), .aN .i64 14)], []⟩
def jY : aj := ⟨[.ptr 66 0 .env, .ptr 118 0 (.par 1)], .bX [.ak ax [0], .bk false], [], 0, [((1, 118, 0), .aN .i64 24), ((1, 118, 1), .aN .i64 15)], []⟩
def jZ : aj := ⟨[.ptr 66 0 .env, .ptr 118 0 (.par 1)], .bX [.ak ax [0], .bk false], [], 0, [((1, 118, 0), .aN .i64 24), ((1, 118, 1), .aN .i64 16)], []⟩
def jT : aj := ⟨[.ptr 66 0 .env, .ptr 118 0 (.par 1)], .bX [.ak ax [0], .bk false], [], 0, [((1, 118, 0), .aN .i64 24), ((1, 118, 1), .aN .i64 18)], []⟩
def jM : aj := ⟨[.ptr 66 0 .env, .ptr 118 0 (.par 1)], .bX [.ak ax [0], .bk false], [], 0, [((1, 118, 0), .aN .i64 24), ((1, 118, 1), .aN .i64 19)], []⟩
def kv : aj := ⟨[.ptr 66 0 .env, .ptr 118 0 (.par 1)], .bX [.ak ax [15], .bk true], [], 0, [((1, 118, 0), .aN .i64 24), ((1, 118, 1), .aN .i64 20)], []⟩
def jU : aj := ⟨[.ptr 66 0 .env, .ptr 118 0 (.par 1)], .bX [.ak ax [20], .bk true], [], 0, [((1, 118, 0), .aN .i64 24), ((1, 118, 1), .aN .i64 21)], []⟩
def jX : aj := ⟨[.ptr 66 0 .env, .ptr 118 0 (.par 1)], .bX [.ak ax [14], .bk true], [], 0, [((1, 118, 0), .aN .i64 24), ((1, 118, 1), .aN .i64 22)], []⟩
def Dw : aj := ⟨[.ptr 66 0 .env, .ptr 118 0 (.par 1)], .v (.agg af), (aY ++ bC ++ bz ++ bI ++ [.par 1 118 17]), 2, [((1, 118, 1), .aN .i64 2), ((1, 118, 17), .val 0)], []⟩
def DU : aj := ⟨[.ptr 66 0 .env, .ptr 118 0 (.par 1)], .v (.agg af), (aY ++ bC ++ bz ++ bI ++ [.par 1 118 17]), 2, [((1, 118, 1), .aN .i64 4), ((1, 118, 17), .val 0)], []⟩
def xk : aj := ⟨[.ptr 66 0 .env, .ptr 118 0 (.par 1)], .v (.agg af), (aY ++ bC ++ bz ++ bI ++ [.par 1 118 17]), 2, [((1, 118, 1), .aN .i64 10), ((1, 118, 17), .val 0)], []⟩
def yG : aj := ⟨[.ptr 66 0 .env, .ptr 118 0 (.par 1)], .v (.agg af), (aY ++ bC ++ bz ++ bI ++ [.par 1 118 17]), 2, [((1, 118, 1), .aN .i64 11), ((1, 118, 17), .val 0)], []⟩
def y7 : aj := ⟨[.ptr 66 0 .env, .ptr 118 0 (.par 1)], .v (.agg af), (aY ++ bC ++ bz ++ bI ++ [.par 1 118 17]), 2, [((1, 118, 1), .aN .i64 12), ((1, 118, 17), .val 0)], []⟩
def Ac : aj := ⟨[.ptr 66 0 .env, .ptr 118 0 (.par 1)], .v (.agg af), (aY ++ bC ++ bz ++ bI ++ [.par 1 118 17]), 2, [((1, 118, 1), .aN .i64 13), ((1, 118, 17), .val 0)], []⟩
def yg : aj := ⟨[.ptr 66 0 .env, .ptr 118 0 (.par 1)], .v (.agg af), (aY ++ bC ++ bz ++ bI ++ [.par 1 118 17]), 2, [((1, 118, 1), .aN .i64 15), ((1, 118, 17), .val 0)], []⟩
def Ab : aj := ⟨[.ptr 66 0 .env, .ptr 118 0 (.par 1)], .v (.agg af), (aY ++ bC ++ bz ++ bI ++ [.par 1 118 17]), 2, [((1, 118, 1), .aN .i64 16), ((1, 118, 17), .val 0)], []⟩
def Aq : aj := ⟨[.ptr 118 0 (.par 0)], .v (.c (.int .i64)), [], 0, [((0, 118, 17), .val 0)], []⟩
def Us : List (Nat × aj) := (156, Aq) :: bu
def jC : aj := ⟨[.ptr 66 0 .env, .ptr 118 0 (.par 1)], .v (.ak af [1]), (aY ++ bC ++ bz ++ bI ++ [.par 1 118 17]), 2, [((1, 118, 1), .aN .i64 23), ((1, 118, 17), .val 0)], []⟩
def kz : aj := ⟨[.ptr 66 0 .env, .ptr 118 0 (.par 1)], .v (.ak af [1]), (aY ++ bC ++ bz ++ bI ++ [.par 1 118 17]), 2, [((1, 118, 0), .aN .i64 24), ((1, 118, 1), .aN .i64 23), ((1, 118, 17), .val 0)], []⟩
def xu : aj := ⟨[.ptr 66 0 .env, .ptr 118 0 (.par 1), .fB 19], .v (.agg af), (aY ++ bC ++ bz ++ bI ++ [.par 1 118 17]), 2, [((1, 118, 1), .aN .i64 17), ((1, 118, 17), .val 0)], []⟩
def xJ : aj := ⟨[.ptr 66 0 .env, .ptr 118 0 (.par 1), .fB 19], .v (.agg af), (aY ++ bC ++ bz ++ bI ++ [.par 1 118 17]), 2, [((1, 118, 1), .aN .i64 18), ((1, 118, 17), .val 0)], []⟩
def ze : aj := ⟨[.ptr 66 0 .env, .ptr 118 0 (.par 1), .fB 19], .v (.agg af), (aY ++ bC ++ bz ++ bI ++ [.par 1 118 17]), 2, [((1, 118, 1), .aN .i64 19), ((1, 118, 17), .val 0)], []⟩
def zq : aj := ⟨[.ptr 66 0 .env, .ptr 118 0 (.par 1), .fB 19], .v (.agg af), (aY ++ bC ++ bz ++ bI ++ [.par 1 118 17]), 2, [((1, 118, 1), .aN .i64 18), ((1, 118, 17), .val 0)], []⟩
def xS : aj := ⟨[.ptr 66 0 .env, .ptr 118 0 (.par 1), .fB 19], .v (.agg af), (aY ++ bC ++ bz ++ bI ++ [.par 1 118 17]), 2, [((1, 118, 1), .aN .i64 19), ((1, 118, 17), .val 0)], []⟩
def zL : aj := ⟨[.ptr 66 0 .env, .ptr 118 0 (.par 1)], .v (.agg af), (aY ++ bC ++ bz ++ bI ++ [.par 1 118 17]), 2, [((1, 118, 1), .aN .i64 17), ((1, 118, 17), .val 0)], []⟩
def xR : aj := ⟨[.ptr 66 0 .env, .ptr 118 0 (.par 1)], .v (.agg af), (aY ++ bC ++ bz ++ bI ++ [.par 1 118 17]), 2, [((1, 118, 1), .aN .i64 18), ((1, 118, 17), .val 0)], []⟩
def zk : aj := ⟨[.ptr 66 0 .env, .ptr 118 0 (.par 1)], .v (.agg af), (aY ++ bC ++ bz ++ bI ++ [.par 1 118 17]), 2, [((1, 118, 1), .aN .i64 19), ((1, 118, 17), .val 0)], []⟩
def yE : aj := ⟨[.ptr 66 0 .env, .ptr 118 0 (.par 1)], .v (.agg af), (aY ++ bC ++ bz ++ bI ++ [.par 1 118 17]), 2, [((1, 118, 1), .aN .i64 18), ((1, 118, 17), .val 0)], []⟩
def x9 : aj := ⟨[.ptr 66 0 .env, .ptr 118 0 (.par 1)], .v (.agg af), (aY ++ bC ++ bz ++ bI ++ [.par 1 118 17]), 2, [((1, 118, 1), .aN .i64 19), ((1, 118, 17), .val 0)], []⟩
def DV : aj := ⟨[.ptr 66 0 .env, .ptr 118 0 (.par 1), .v (.c (.int .i64)), .v (.c (.int .i64))], .v (.agg af), (aY ++ bC ++ bz ++ bI ++ [.par 1 118 17]), 5, [((1, 118, 1), .aN .i64 6), ((1, 118, 17), .val 0)], []⟩
def Ca : aj := ⟨[.ptr 66 0 .env, .ptr 118 0 (.par 1), .v (.c (.int .i64)), .v (.c (.int .i64))], .v (.agg af), (aY ++ bC ++ bz ++ bI ++ [.par 1 118 17]), 5, [((1, 118, 1), .aN .i64 7), ((1, 118, 17), .val 0)], []⟩
def DL : aj := ⟨[.ptr 66 0 .env, .ptr 118 0 (.par 1), .v (.c (.int .i64)), .v (.c (.int .i64))], .v (.agg af), (aY ++ bC ++ bz ++ bI ++ [.par 1 118 17]), 5, [((1, 118, 1), .aN .i64 8), ((1, 118, 17), .val 0)], []⟩
def yo : aj := ⟨[.ptr 66 0 .env, .ptr 118 0 (.par 1), .v (.c (.int .i64)), .v (.c (.int .i64))], .v (.agg af), (aY ++ bC ++ bz ++ bI ++ [.par 1 118 17]), 5, [((1, 118, 1), .aN .i64 20), ((1, 118, 17), .val 0)], []⟩
def En : aj := ⟨[.ptr 66 0 .env, .ptr 118 0 (.par 1), .v (.c (.int .i64)), .v (.c (.int .i64))], .v (.agg af), (aY ++ bC ++ bz ++ bI ++ [.par 1 118 17]), 5, [((1, 118, 1), .aN .i64 9), ((1, 118, 17), .val 0)], []⟩
def xE : aj := ⟨[.ptr 66 0 .env, .ptr 118 0 (.par 1), .v (.c (.int .i64)), .v (.c (.int .i64))], .v (.agg af), (aY ++ bC ++ bz ++ bI ++ [.par 1 118 17]), 5, [((1, 118, 1), .aN .i64 14), ((1, 118, 17), .val 0)], []⟩
def yX : aj := ⟨[.ptr 66 0 .env, .ptr 118 0 (.par 1), .v (.c (.int .i64)), .v (.c (.int .i64))], .v (.agg af), (aY ++ bC ++ bz ++ bI ++ [.par 1 118 17]), 5, [((1, 118, 1), .aN .i64 21), ((1, 118, 17), .val 0)], []⟩
def xC : aj := ⟨[.ptr 66 0 .env, .ptr 118 0 (.par 1), .ne .i64 1, .v (.c (.int .i64))], .v (.agg af), (aY ++ bC ++ bz ++ bI ++ [.par 1 118 17]), 5, [((1, 118, 1), .aN .i64 22), ((1, 118, 17), .val 0)], []⟩
def y5 : aj := ⟨[.ptr 66 0 .env, .ptr 118 0 (.par 1), .v (.c (.int .i64)), .v (.c (.int .i64))], .v (.agg af), (aY ++ bC ++ bz ++ bI ++ [.par 1 118 17]), 5, [((1, 118, 1), .aN .i64 14), ((1, 118, 17), .val 0)], []⟩
def yt : aj := ⟨[.ptr 66 0 .env, .ptr 118 0 (.par 1), .v (.c (.int .i64)), .v (.c (.int .i64))], .v (.agg af), (aY ++ bC ++ bz ++ bI ++ [.par 1 118 17]), 5, [((1, 118, 1), .aN .i64 21), ((1, 118, 17), .val 0)], []⟩
def yJ : aj := ⟨[.ptr 66 0 .env, .ptr 118 0 (.par 1), .ne .i64 1, .v (.c (.int .i64))], .v (.agg af), (aY ++ bC ++ bz ++ bI ++ [.par 1 118 17]), 5, [((1, 118, 1), .aN .i64 22), ((1, 118, 17), .val 0)], []⟩
def Fa : aj := ⟨[.ptr 66 0 .env, .ptr 118 0 (.par 1)], .v (.agg af), (aY ++ bC ++ bz ++ bI ++ [.par 1 118 17]), 2, [((1, 118, 0), .aN .i64 24), ((1, 118, 1), .aN .i64 2), ((1, 118, 17), .val 0)], []⟩
def Er : aj := ⟨[.ptr 66 0 .env, .ptr 118 0 (.par 1)], .v (.agg af), (aY ++ bC ++ bz ++ bI ++ [.par 1 118 17]), 2, [((1, 118, 0), .aN .i64 24), ((1, 118, 1), .aN .i64 4), ((1, 118, 17), .val 0)], []⟩
def BG : aj := ⟨[.ptr 66 0 .env, .ptr 118 0 (.par 1)], .v (.agg af), (aY ++ bC ++ bz ++ bI ++ [.par 1 118 17]), 2, [((1, 118, 0), .aN .i64 24), ((1, 118, 1), .aN .i64 10), ((1, 118, 17), .val 0)], []⟩
def Bq : aj := ⟨[.ptr 66 0 .env, .ptr 118 0 (.par 1)], .v (.agg af), (aY ++ bC ++ bz ++ bI ++ [.par 1 118 17]), 2, [((1, 118, 0), .aN .i64 24), ((1, 118, 1), .aN .i64 11), ((1, 118, 17), .val 0)], []⟩
def Bn : aj := ⟨[.ptr 66 0 .env, .ptr 118 0 (.par 1)], .v (.agg af), (aY ++ bC ++ bz ++ bI ++ [.par 1 118 17]), 2, [((1, 118, 0), .aN .i64 24), ((1, 118, 1), .aN .i64 12), ((1, 118, 17), .val 0)], []⟩
def Bd : aj := ⟨[.ptr 66 0 .env, .ptr 118 0 (.par 1)], .v (.agg af), (aY ++ bC ++ bz ++ bI ++ [.par 1 118 17]), 2, [((1, 118, 0), .aN .i64 24), ((1, 118, 1), .aN .i64 13), ((1, 118, 17), .val 0)], []⟩
def BL : aj := ⟨[.ptr 66 0 .env, .ptr 118 0 (.par 1)], .v (.agg af), (aY ++ bC ++ bz ++ bI ++ [.par 1 118 17]), 2, [((1, 118, 0), .aN .i64 24), ((1, 118, 1), .aN .i64 15), ((1, 118, 17), .val 0)], []⟩
def Br : aj := ⟨[.ptr 66 0 .env, .ptr 118 0 (.par 1)], .v (.agg af), (aY ++ bC ++ bz ++ bI ++ [.par 1 118 17]), 2, [((1, 118, 0), .aN .i64 24), ((1, 118, 1), .aN .i64 16), ((1, 118, 17), .val 0)], []⟩
def Bc : aj := ⟨[.ptr 66 0 .env, .ptr 118 0 (.par 1)], .v (.agg af), (aY ++ bC ++ bz ++ bI ++ [.par 1 118 17]), 2, [((1, 118, 0), .aN .i64 24), ((1, 118, 1), .aN .i64 17), ((1, 118, 17), .val 0)], []⟩
def Bo : aj := ⟨[.ptr 66 0 .env, .ptr 118 0 (.par 1)], .v (.agg af), (aY ++ bC ++ bz ++ bI ++ [.par 1 118 17]), 2, [((1, 118, 0), .aN .i64 24), ((1, 118, 1), .aN .i64 18), ((1, 118, 17), .val 0)], []⟩
def Bz : aj := ⟨[.ptr 66 0 .env, .ptr 118 0 (.par 1)], .v (.agg af), (aY ++ bC ++ bz ++ bI ++ [.par 1 118 17]), 2, [((1, 118, 0), .aN .i64 24), ((1, 118, 1), .aN .i64 19), ((1, 118, 17), .val 0)], []⟩
def Bl : aj := ⟨[.ptr 66 0 .env, .ptr 118 0 (.par 1)], .v (.agg af), (aY ++ bC ++ bz ++ bI ++ [.par 1 118 17]), 2, [((1, 118, 0), .aN .i64 24), ((1, 118, 1), .aN .i64 18), ((1, 118, 17), .val 0)], []⟩
def Bf : aj := ⟨[.ptr 66 0 .env, .ptr 118 0 (.par 1)], .v (.agg af), (aY ++ bC ++ bz ++ bI ++ [.par 1 118 17]), 2, [((1, 118, 0), .aN .i64 24), ((1, 118, 1), .aN .i64 19), ((1, 118, 17), .val 0)], []⟩
def EU : aj := ⟨[.ptr 66 0 .env, .ptr 118 0 (.par 1), .v (.c (.int .i64)), .v (.c (.int .i64))], .v (.agg af), (aY ++ bC ++ bz ++ bI ++ [.par 1 118 17]), 5, [((1, 118, 0), .aN .i64 24), ((1, 118, 1), .aN .i64 6), ((1, 118, 17), .val 0)], []⟩
def FE : aj := ⟨[.ptr 66 0 .env, .ptr 118 0 (.par 1), .v (.c (.int .i64)), .v (.c (.int .i64))], .v (.agg af), (aY ++ bC ++ bz ++ bI ++ [.par 1 118 17]), 5, [((1, 118, 0), .aN .i64 24), ((1, 118, 1), .aN .i64 7), ((1, 118, 17), .val 0)], []⟩
def Eu : aj := ⟨[.ptr 66 0 .env, .ptr 118 0 (.par 1), .v (.c (.int .i64)), .v (.c (.int .i64))], .v (.agg af), (aY ++ bC ++ bz ++ bI ++ [.par 1 118 17]), 5, [((1, 118, 0), .aN .i64 24), ((1, 118, 1), .aN .i64 8), ((1, 118, 17), .val 0)], []⟩
def Bw : aj := ⟨[.ptr 66 0 .env, .ptr 118 0 (.par 1), .v (.c (.int .i64)), .v (.c (.int .i64))], .v (.agg af), (aY ++ bC ++ bz ++ bI ++ [.par 1 118 17]), 5, [((1, 118, 0), .aN .i64 24), ((1, 118, 1), .aN .i64 20), ((1, 118, 17), .val 0)], []⟩
def FP : aj := ⟨[.ptr 66 0 .env, .ptr 118 0 (.par 1), .v (.c (.int .i64)), .v (.c (.int .i64))], .v (.agg af), (aY ++ bC ++ bz ++ bI ++ [.par 1 118 17]), 5, [((1, 118, 0), .aN .i64 24), ((1, 118, 1), .aN .i64 9), ((1, 118, 17), .val 0)], []⟩
def BJ : aj := ⟨[.ptr 66 0 .env, .ptr 118 0 (.par 1), .v (.c (.int .i64)), .v (.c (.int .i64))], .v (.agg af), (aY ++ bC ++ bz ++ bI ++ [.par 1 118 17]), 5, [((1, 118, 0), .aN .i64 24), ((1, 118, 1), .aN .i64 14), ((1, 118, 17), .val 0)], []⟩
def BI : aj := ⟨[.ptr 66 0 .env, .ptr 118 0 (.par 1), .v (.c (.int .i64)), .v (.c (.int .i64))], .v (.agg af), (aY ++ bC ++ bz ++ bI ++ [.par 1 118 17]), 5, [((1, 118, 0), .aN .i64 24), ((1, 118, 1), .aN .i64 21), ((1, 118, 17), .val 0)], []⟩
def Bu : aj := ⟨[.ptr 66 0 .env, .ptr 118 0 (.par 1), .ne .i64 1, .v (.c (.int .i64))], .v (.agg af), (aY ++ bC ++ bz ++ bI ++ [.par 1 118 17]), 5, [((1, 118, 0), .aN .i64 24), ((1, 118, 1), .aN .i64 22), ((1, 118, 17), .val 0)], []⟩
def BA : aj := ⟨[.ptr 66 0 .env, .ptr 118 0 (.par 1), .v (.c (.int .i64)), .v (.c (.int .i64))], .v (.agg af), (aY ++ bC ++ bz ++ bI ++ [.par 1 118 17]), 5, [((1, 118, 0), .aN .i64 24), ((1, 118, 1), .aN .i64 14), ((1, 118, 17), .val 0)], []⟩
def A7 : aj := ⟨[.ptr 66 0 .env, .ptr 118 0 (.par 1), .v (.c (.int .i64)), .v (.c (.int .i64))], .v (.agg af), (aY ++ bC ++ bz ++ bI ++ [.par 1 118 17]), 5, [((1, 118, 0), .aN .i64 24), ((1, 118, 1), .aN .i64 21), ((1, 118, 17), .val 0)], []⟩
def BD : aj := ⟨[.ptr 66 0 .env, .ptr 118 0 (.par 1), .ne .i64 1, .v (.c (.int .i64))], .v (.agg af), (aY ++ bC ++ bz ++ bI ++ [.par 1 118 17]), 5, [((1, 118, 0), .aN .i64 24), ((1, 118, 1), .aN .i64 22), ((1, 118, 17), .val 0)], []⟩
def vD : aj := ⟨[.ptr 118 0 (.par 0)], .fB 19, [], 0, [((0, 118, 17), .qc 0 3 1)], []⟩
def TE : List (Nat × aj) := (156, vD) :: bu
def yD : aj := ⟨[.ptr 66 0 .env, .ptr 118 0 (.par 1), .aN .i64 1, .v (.c (.int .i64))], .v (.agg af), (aY ++ bC ++ bz ++ bI ++ [.par 1 118 17]), 5, [((1, 118, 1), .aN .i64 22), ((1, 118, 17), .qc 0 3 1)], []⟩
def uB : aj := ⟨[.ptr 66 0 .env, .ptr 118 0 (.par 1), .aN .i64 1, .v (.c (.int .i64))], .v (.agg af), (aY ++ bC ++ bz ++ bI ++ [.par 1 118 17]), 5, [((1, 118, 0), .aN .i64 24), ((1, 118, 1), .aN .i64 22), ((1, 118, 17), .qc 0 3 1)], []⟩
def wI : aj := ⟨[.ptr 66 0 .env, .ptr 118 0 (.par 1)], .v (.agg af), (aY ++ bC ++ bz ++ bI), 2, [((1, 118, 9), .fB 10)], []⟩
def Ht : aj := ⟨[.ptr 66 0 .env, .ptr 118 0 (.par 1)], .v (.agg af), (aY ++ bC ++ bz ++ bI), 2, [((1, 118, 0), .aN .i64 26), ((1, 118, 9), .fB 10)], []⟩
def je : aj := ⟨[.ptr 66 0 .env, .ptr 118 0 (.par 1)], .v (.ak af [1]), (aY ++ bC ++ bz ++ bI), 2, [((1, 118, 9), .wN 10)], []⟩
def mM : aj := ⟨[.ptr 66 0 .env, .ptr 118 0 (.par 1)], .v (.ak af [1]), (aY ++ bC ++ bz ++ bI), 2, [((1, 118, 0), .aN .i64 26), ((1, 118, 9), .wN 10)], []⟩
def oN : aj := ⟨[.ptr 66 0 .env, .ptr 118 0 (.par 1)], .v (.agg af), bC, 0, [((1, 118, 9), .fB 10)], []⟩
def IU : aj := ⟨[.ptr 66 0 .env, .ptr 118 0 (.par 1), .v (.c (.int .i64)), .fB 19], .v (.agg af), (aY ++ bC ++ bz ++ bI), 2, [((1, 118, 1), .aN .i64 3), ((1, 118, 9), .fB 10)], []⟩
def BP : aj := ⟨[.ptr 66 0 .env, .ptr 118 0 (.par 1), .aN .i64 3, .v (.c (.int .i64))], .v (.agg af), (aY ++ bC ++ bz ++ bI), 2, [((1, 118, 1), .aN .i64 3), ((1, 118, 9), .fB 10)], []⟩
def Iq : aj := ⟨[.ptr 66 0 .env, .ptr 118 0 (.par 1), .v (.c (.int .i64)), .v (.c (.int .i64))], .v (.agg af), (aY ++ bC ++ bz ++ bI), 2, [((1, 118, 1), .ne .i64 3), ((1, 118, 9), .fB 10)], []⟩
def yR : aj := ⟨[.ptr 66 0 .env, .ptr 118 0 (.par 1), .v (.c (.int .i64)), .fB 19], .v (.agg af), (aY ++ bC ++ bz ++ bI), 2, [((1, 118, 0), .aN .i64 26), ((1, 118, 1), .aN .i64 3), ((1, 118, 9), .fB 10)], []⟩
def vJ : aj := ⟨[.ptr 66 0 .env, .ptr 118 0 (.par 1), .aN .i64 3, .v (.c (.int .i64))], .v (.agg af), (aY ++ bC ++ bz ++ bI), 2, [((1, 118, 0), .aN .i64 26), ((1, 118, 1), .aN .i64 3), ((1, 118, 9), .fB 10)], []⟩
def zh : aj := ⟨[.ptr 66 0 .env, .ptr 118 0 (.par 1), .v (.c (.int .i64)), .v (.c (.int .i64))], .v (.agg af), (aY ++ bC ++ bz ++ bI), 2, [((1, 118, 0), .aN .i64 26), ((1, 118, 1), .ne .i64 3), ((1, 118, 9), .fB 10)], []⟩
def bH : aj := ⟨[.ptr 118 0 (.par 0)], .v (.ak af [1]), [.par 0 118 1, .par 0 118 17], 0, [((0, 118, 17), .val 0)], []⟩
def bE : aj := ⟨[.ptr 118 0 (.par 0)], .v (.ak af [0]), [.par 0 118 1, .par 0 118 17], 0, [((0, 118, 17), .val 0)], [((0, 118, 17), .val 1), ((0, 118, 1), .aN .i64 1)]⟩
def aM : List (Nat × aj × List (AT × Hm)) → Nat → Option (aj × List (AT × Hm))
 | [], _ => none
 | (d, e) :: l, t => cond (Nat.beq d t) (some e) (aM l t)
theorem aJ {P : Program} : ∀ f q, aM [] f = some q → au P f ∧ aV P kd sh B G f q.1 q.2 := fun _ _ h => by cases h
theorem aL {P : Program} {l : List (Nat × aj × List (AT × Hm))} {g : Nat} {t : aj × List (AT × Hm)} (hc : au P g) (ht : aV P kd sh B G g t.1 t.2) (h : ∀ f q, aM l f = some q → au P f ∧ aV P kd sh B G f q.1 q.2) : ∀ f q, aM ((g, t) :: l) f = some q → au P f ∧ aV P kd sh B G f q.1 q.2 := by
 intro f q hf
 simp only [aM] at hf
 cases hb : Nat.beq g f with
 | true =>
   rw [hb] at hf
   cases hf
   obtain rfl := Nat.eq_of_beq_eq_true hb
   exact ⟨hc, ht⟩
 | false => rw [hb] at hf; exact h f q hf
theorem aZ {P : Program} {f : FuncId} {s : aj} (h : TC P kd sh B G f s) : aV P kd sh B G f s [(s.res, s.post)] := by
 intro N w args h1 h2 h3 h4 h5 h6 h7
 refine (h N w args h1 h2 h3 h4 h5 h6 h7).mono ?_
 rintro e w' ⟨v, rfl, g1, g2, g3, g4⟩
 exact ⟨v, rfl, g1, g2, (s.res, s.post), List.mem_singleton.2 rfl, g3, g4⟩
theorem dD : au Tryz.prog 132 := aO Tryz.func132 (by kernel_rfl) (by kernel_rfl)
theorem cZ : au Tryz.prog 87 := aO Tryz.func87 (by kernel_rfl) (by kernel_rfl)
theorem oq : au Tryz.prog 89 := aO Tryz.func89 (by kernel_rfl) (by kernel_rfl)
theorem iK : au Tryz.prog 160 := aO Tryz.func160 (by kernel_rfl) (by kernel_rfl)
theorem gU : au Tryz.prog 110 := aO Tryz.func110 (by kernel_rfl) (by kernel_rfl)
theorem nu : au Tryz.prog 159 := aO Tryz.func159 (by kernel_rfl) (by kernel_rfl)
theorem eH : au Tryz.prog 116 := aO Tryz.func116 (by kernel_rfl) (by kernel_rfl)
theorem Bj : au Tryz.prog 111 := aO Tryz.func111 (by kernel_rfl) (by kernel_rfl)
theorem pM : au Tryz.prog 118 := aO Tryz.func118 (by kernel_rfl) (by kernel_rfl)
end Go.Proofs.YtncnepmgmphanaaGreatDoor
