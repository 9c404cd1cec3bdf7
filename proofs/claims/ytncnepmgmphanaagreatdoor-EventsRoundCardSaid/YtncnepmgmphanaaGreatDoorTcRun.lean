/- What a frame enters, by kinds; the lines of a Run frame; the client (printed by gen_tc3.py). No condition beside those named. -/
import Derived.Test.YtncnepmgmphanaaGreatDoorTcKinds
import Derived.Test.YtncnepmgmphanaaGreatDoorTcR
set_option linter.unusedVariables false
set_option linter.unusedSimpArgs false
set_option linter.unusedSectionVars false
namespace Go.Proofs.YtncnepmgmphanaaGreatDoor
variable {sh : Sh} {B : Nat} {G : World → Prop}
def altL (ln : Int) : AT × Hm := (.v (.ak cs_r08_result [0]), [((1, 118, 1), .kon .i64 ln), ((1, 118, 17), .val 0)])
def altO : AT × Hm := (.v (.ak cs_r08_result [0]), [((1, 118, 1), .kon .i64 1), ((1, 118, 17), .ownp 3 1)])
def altD : AT × Hm := (.v (.ak cs_r08_result [1]), [])
def altV : AT × Hm := (.v (.ak cs_r08_result [0]), [((1, 118, 1), .kon .i64 1), ((1, 118, 17), .val 1)])
def lineS : List Int := [1, 7, 8, 9, 11, 12, 13, 14, 15, 16, 18, 19, 20, 21, 22]
def altsU : List (AT × Hm) := altD :: altO :: altV :: lineS.map altL
def altsU0 : List (AT × Hm) := altD :: altO :: lineS.map altL
def altsC : List (AT × Hm) := [altD, (.v (.ak cs_r08_result [0]), [((1, 118, 9), .ixe 10)]), (.v (.ak cs_r08_result [0]), [((1, 118, 9), .pos .i64)])]
def sg_endK : FSig := ⟨[.v (.c (.int .i64)), .v (.c (.int .i64))], .v (.ak cs_r08_result [1]), [], 0, [], []⟩
def sg_enterDrainK : FSig := ⟨[.ptr 118 0 (.par 0)], .tup [.ak cs_r08_Frame [8, 11, 5, 9, 20, 0], .c .bool], [], 0, [], []⟩
def sg_enterWorkerK : FSig := ⟨[.ptr 66 0 .env, .ptr 118 0 (.par 1)], .tup [.ak cs_r08_Frame [18, 23, 22, 21, 2, 14, 19, 4], .bk true], [.par 1 118 1], 1, [((1, 118, 1), .ne .i64 7)], []⟩
def sg_enterClient3 : FSig := ⟨[.ptr 66 0 .env, .ptr 118 0 (.par 1)], .tup [.ak cs_r08_Frame [12], .bk true], [], 0, [((1, 118, 1), .kon .i64 3), ((1, 118, 9), .ixe 10)], []⟩
def sg_enterClientN : FSig := ⟨[.ptr 66 0 .env, .ptr 118 0 (.par 1)], .tup [.ak cs_r08_Frame [7, 10, 9, 20, 0], .c .bool], [], 0, [((1, 118, 1), .ne .i64 3), ((1, 118, 9), .ixe 10)], []⟩
def sg_enterClientO : FSig := ⟨[.ptr 66 0 .env, .ptr 118 0 (.par 1)], .tup [.ak cs_r08_Frame [0], .bk false], [], 0, [((1, 118, 9), .oob 10)], []⟩
def sg_ent26_O : FSig := ⟨[.ptr 66 0 .env, .ptr 118 0 (.par 1)], .tup [.ak cs_r08_Frame [0], .bk false], [], 0, [((1, 118, 0), .kon .i64 26), ((1, 118, 9), .oob 10)], []⟩
def sg_choose6 : FSig := ⟨[.ptr 66 0 .env, .ptr 118 0 (.par 1)], .tup [], [], 0, [((1, 118, 1), .kon .i64 6)], []⟩
def sg_choose7 : FSig := ⟨[.ptr 66 0 .env, .ptr 118 0 (.par 1)], .tup [], [], 0, [((1, 118, 1), .kon .i64 7)], []⟩
def sg_choose8 : FSig := ⟨[.ptr 66 0 .env, .ptr 118 0 (.par 1)], .tup [], [], 0, [((1, 118, 1), .kon .i64 8)], []⟩
def sg_choose9 : FSig := ⟨[.ptr 66 0 .env, .ptr 118 0 (.par 1)], .tup [], [], 0, [((1, 118, 1), .kon .i64 9)], []⟩
def sg_choose11 : FSig := ⟨[.ptr 66 0 .env, .ptr 118 0 (.par 1)], .tup [], [], 0, [((1, 118, 1), .kon .i64 11)], []⟩
def sg_choose12 : FSig := ⟨[.ptr 66 0 .env, .ptr 118 0 (.par 1)], .tup [], [], 0, [((1, 118, 1), .kon .i64 12)], []⟩
def sg_choose13 : FSig := ⟨[.ptr 66 0 .env, .ptr 118 0 (.par 1)], .tup [], [], 0, [((1, 118, 1), .kon .i64 13)], []⟩
def sg_choose14 : FSig := ⟨[.ptr 66 0 .env, .ptr 118 0 (.par 1)], .tup [], [], 0, [((1, 118, 1), .kon .i64 14)], []⟩
def sg_choose15 : FSig := ⟨[.ptr 66 0 .env, .ptr 118 0 (.par 1)], .tup [], [], 0, [((1, 118, 1), .kon .i64 15)], []⟩
def sg_choose16 : FSig := ⟨[.ptr 66 0 .env, .ptr 118 0 (.par 1)], .tup [], [], 0, [((1, 118, 1), .kon .i64 16)], []⟩
def sg_choose18 : FSig := ⟨[.ptr 66 0 .env, .ptr 118 0 (.par 1)], .tup [], [], 0, [((1, 118, 1), .kon .i64 18)], []⟩
def sg_choose19 : FSig := ⟨[.ptr 66 0 .env, .ptr 118 0 (.par 1)], .tup [], [], 0, [((1, 118, 1), .kon .i64 19)], []⟩
def sg_choose20 : FSig := ⟨[.ptr 66 0 .env, .ptr 118 0 (.par 1)], .tup [], [], 0, [((1, 118, 1), .kon .i64 20)], []⟩
def sg_choose21 : FSig := ⟨[.ptr 66 0 .env, .ptr 118 0 (.par 1)], .tup [], [], 0, [((1, 118, 1), .kon .i64 21)], []⟩
def sg_choose22 : FSig := ⟨[.ptr 66 0 .env, .ptr 118 0 (.par 1)], .tup [], [], 0, [((1, 118, 1), .kon .i64 22)], []⟩
def sg_enterRun6 : FSig := ⟨[.ptr 66 0 .env, .ptr 118 0 (.par 1)], .tup [.ak cs_r08_Frame [13], .bk true], [], 0, [((1, 118, 1), .kon .i64 6)], []⟩
def sg_enterRun7 : FSig := ⟨[.ptr 66 0 .env, .ptr 118 0 (.par 1)], .tup [.ak cs_r08_Frame [5], .bk true], [], 0, [((1, 118, 1), .kon .i64 7)], []⟩
def sg_enterRun8 : FSig := ⟨[.ptr 66 0 .env, .ptr 118 0 (.par 1)], .tup [.ak cs_r08_Frame [20], .bk true], [], 0, [((1, 118, 1), .kon .i64 8)], []⟩
def sg_enterRun9 : FSig := ⟨[.ptr 66 0 .env, .ptr 118 0 (.par 1)], .tup [.ak cs_r08_Frame [14], .bk true], [], 0, [((1, 118, 1), .kon .i64 9)], []⟩
def sg_enterRun11 : FSig := ⟨[.ptr 66 0 .env, .ptr 118 0 (.par 1)], .tup [.ak cs_r08_Frame [0], .bk false], [], 0, [((1, 118, 1), .kon .i64 11)], []⟩
def sg_enterRun12 : FSig := ⟨[.ptr 66 0 .env, .ptr 118 0 (.par 1)], .tup [.ak cs_r08_Frame [0], .bk false], [], 0, [((1, 118, 1), .kon .i64 12)], []⟩
def sg_enterRun13 : FSig := ⟨[.ptr 66 0 .env, .ptr 118 0 (.par 1)], .tup [.ak cs_r08_Frame [0], .bk false], [], 0, [((1, 118, 1), .kon .i64 13)], []⟩
def sg_enterRun14 : FSig := ⟨[.ptr 66 0 .env, .ptr 118 0 (.par 1)], .tup [.ak cs_r08_Frame [17], .bk true], [], 0, [((1, 118, 1), .kon .i64 14)], []⟩
def sg_enterRun15 : FSig := ⟨[.ptr 66 0 .env, .ptr 118 0 (.par 1)], .tup [.ak cs_r08_Frame [0], .bk false], [], 0, [((1, 118, 1), .kon .i64 15)], []⟩
def sg_enterRun16 : FSig := ⟨[.ptr 66 0 .env, .ptr 118 0 (.par 1)], .tup [.ak cs_r08_Frame [0], .bk false], [], 0, [((1, 118, 1), .kon .i64 16)], []⟩
def sg_enterRun18 : FSig := ⟨[.ptr 66 0 .env, .ptr 118 0 (.par 1)], .tup [.ak cs_r08_Frame [0], .bk false], [], 0, [((1, 118, 1), .kon .i64 18)], []⟩
def sg_enterRun19 : FSig := ⟨[.ptr 66 0 .env, .ptr 118 0 (.par 1)], .tup [.ak cs_r08_Frame [0], .bk false], [], 0, [((1, 118, 1), .kon .i64 19)], []⟩
def sg_enterRun20 : FSig := ⟨[.ptr 66 0 .env, .ptr 118 0 (.par 1)], .tup [.ak cs_r08_Frame [15], .bk true], [], 0, [((1, 118, 1), .kon .i64 20)], []⟩
def sg_enterRun21 : FSig := ⟨[.ptr 66 0 .env, .ptr 118 0 (.par 1)], .tup [.ak cs_r08_Frame [20], .bk true], [], 0, [((1, 118, 1), .kon .i64 21)], []⟩
def sg_enterRun22 : FSig := ⟨[.ptr 66 0 .env, .ptr 118 0 (.par 1)], .tup [.ak cs_r08_Frame [14], .bk true], [], 0, [((1, 118, 1), .kon .i64 22)], []⟩
def sg_ent0 : FSig := ⟨[.ptr 66 0 .env, .ptr 118 0 (.par 1)], .tup [.ak cs_r08_Frame [0], .bk false], [], 0, [((1, 118, 0), .kon .i64 0)], []⟩
def sg_ent1 : FSig := ⟨[.ptr 66 0 .env, .ptr 118 0 (.par 1)], .tup [.ak cs_r08_Frame [0], .bk false], [], 0, [((1, 118, 0), .kon .i64 1)], []⟩
def sg_ent2 : FSig := ⟨[.ptr 66 0 .env, .ptr 118 0 (.par 1)], .tup [.ak cs_r08_Frame [0], .bk false], [], 0, [((1, 118, 0), .kon .i64 2)], []⟩
def sg_ent3 : FSig := ⟨[.ptr 66 0 .env, .ptr 118 0 (.par 1)], .tup [.ak cs_r08_Frame [0], .bk false], [], 0, [((1, 118, 0), .kon .i64 3)], []⟩
def sg_ent4 : FSig := ⟨[.ptr 66 0 .env, .ptr 118 0 (.par 1)], .tup [.ak cs_r08_Frame [0], .bk false], [], 0, [((1, 118, 0), .kon .i64 4)], []⟩
def sg_ent7 : FSig := ⟨[.ptr 66 0 .env, .ptr 118 0 (.par 1)], .tup [.ak cs_r08_Frame [0], .bk false], [], 0, [((1, 118, 0), .kon .i64 7)], []⟩
def sg_ent8 : FSig := ⟨[.ptr 66 0 .env, .ptr 118 0 (.par 1)], .tup [.ak cs_r08_Frame [0], .bk false], [], 0, [((1, 118, 0), .kon .i64 8)], []⟩
def sg_ent9 : FSig := ⟨[.ptr 66 0 .env, .ptr 118 0 (.par 1)], .tup [.ak cs_r08_Frame [0], .bk false], [], 0, [((1, 118, 0), .kon .i64 9)], []⟩
def sg_ent10 : FSig := ⟨[.ptr 66 0 .env, .ptr 118 0 (.par 1)], .tup [.ak cs_r08_Frame [0], .bk false], [], 0, [((1, 118, 0), .kon .i64 10)], []⟩
def sg_ent11 : FSig := ⟨[.ptr 66 0 .env, .ptr 118 0 (.par 1)], .tup [.ak cs_r08_Frame [0], .bk false], [], 0, [((1, 118, 0), .kon .i64 11)], []⟩
def sg_ent12 : FSig := ⟨[.ptr 66 0 .env, .ptr 118 0 (.par 1)], .tup [.ak cs_r08_Frame [0], .bk false], [], 0, [((1, 118, 0), .kon .i64 12)], []⟩
def sg_ent13 : FSig := ⟨[.ptr 66 0 .env, .ptr 118 0 (.par 1)], .tup [.ak cs_r08_Frame [0], .bk false], [], 0, [((1, 118, 0), .kon .i64 13)], []⟩
def sg_ent14 : FSig := ⟨[.ptr 66 0 .env, .ptr 118 0 (.par 1)], .tup [.ak cs_r08_Frame [0], .bk false], [], 0, [((1, 118, 0), .kon .i64 14)], []⟩
def sg_ent16 : FSig := ⟨[.ptr 66 0 .env, .ptr 118 0 (.par 1)], .tup [.ak cs_r08_Frame [0], .bk false], [], 0, [((1, 118, 0), .kon .i64 16)], []⟩
def sg_ent19 : FSig := ⟨[.ptr 66 0 .env, .ptr 118 0 (.par 1)], .tup [.ak cs_r08_Frame [0], .bk false], [], 0, [((1, 118, 0), .kon .i64 19)], []⟩
def sg_ent20 : FSig := ⟨[.ptr 66 0 .env, .ptr 118 0 (.par 1)], .tup [.ak cs_r08_Frame [0], .bk false], [], 0, [((1, 118, 0), .kon .i64 20)], []⟩
def sg_ent21 : FSig := ⟨[.ptr 66 0 .env, .ptr 118 0 (.par 1)], .tup [.ak cs_r08_Frame [0], .bk false], [], 0, [((1, 118, 0), .kon .i64 21)], []⟩
def sg_ent5 : FSig := ⟨[.ptr 66 0 .env, .ptr 118 0 (.par 1)], .tup [.ak cs_r08_Frame [0, 3], .c .bool], [], 0, [((1, 118, 0), .kon .i64 5)], []⟩
def sg_ent6 : FSig := ⟨[.ptr 66 0 .env, .ptr 118 0 (.par 1)], .tup [.ak cs_r08_Frame [1, 4, 0], .c .bool], [], 0, [((1, 118, 0), .kon .i64 6)], []⟩
def sg_ent15 : FSig := ⟨[.ptr 66 0 .env, .ptr 118 0 (.par 1)], .tup [.ak cs_r08_Frame [5, 0], .c .bool], [], 0, [((1, 118, 0), .kon .i64 15)], []⟩
def sg_ent17 : FSig := ⟨[.ptr 66 0 .env, .ptr 118 0 (.par 1)], .tup [.ak cs_r08_Frame [16, 5, 0], .c .bool], [], 0, [((1, 118, 0), .kon .i64 17)], []⟩
def sg_ent18 : FSig := ⟨[.ptr 66 0 .env, .ptr 118 0 (.par 1)], .tup [.ak cs_r08_Frame [5, 0], .c .bool], [], 0, [((1, 118, 0), .kon .i64 18)], []⟩
def sg_ent22 : FSig := ⟨[.ptr 66 0 .env, .ptr 118 0 (.par 1)], .tup [.ak cs_r08_Frame [8, 11, 5, 9, 20, 0], .c .bool], [], 0, [((1, 118, 0), .kon .i64 22)], []⟩
def sg_ent23 : FSig := ⟨[.ptr 66 0 .env, .ptr 118 0 (.par 1)], .tup [.ak cs_r08_Frame [6, 14], .c .bool], [], 0, [((1, 118, 0), .kon .i64 23)], []⟩
def sg_ent25 : FSig := ⟨[.ptr 66 0 .env, .ptr 118 0 (.par 1)], .tup [.ak cs_r08_Frame [18, 23, 22, 21, 2, 14, 19, 4], .bk true], [.par 1 118 1], 1, [((1, 118, 0), .kon .i64 25), ((1, 118, 1), .ne .i64 7)], []⟩
def sg_ent26_3 : FSig := ⟨[.ptr 66 0 .env, .ptr 118 0 (.par 1)], .tup [.ak cs_r08_Frame [12], .bk true], [], 0, [((1, 118, 0), .kon .i64 26), ((1, 118, 1), .kon .i64 3), ((1, 118, 9), .ixe 10)], []⟩
def sg_ent26_N : FSig := ⟨[.ptr 66 0 .env, .ptr 118 0 (.par 1)], .tup [.ak cs_r08_Frame [7, 10, 9, 20, 0], .c .bool], [], 0, [((1, 118, 0), .kon .i64 26), ((1, 118, 1), .ne .i64 3), ((1, 118, 9), .ixe 10)], []⟩
def sg_ent24_6 : FSig := ⟨[.ptr 66 0 .env, .ptr 118 0 (.par 1)], .tup [.ak cs_r08_Frame [13], .bk true], [], 0, [((1, 118, 0), .kon .i64 24), ((1, 118, 1), .kon .i64 6)], []⟩
def sg_ent24_7 : FSig := ⟨[.ptr 66 0 .env, .ptr 118 0 (.par 1)], .tup [.ak cs_r08_Frame [5], .bk true], [], 0, [((1, 118, 0), .kon .i64 24), ((1, 118, 1), .kon .i64 7)], []⟩
def sg_ent24_8 : FSig := ⟨[.ptr 66 0 .env, .ptr 118 0 (.par 1)], .tup [.ak cs_r08_Frame [20], .bk true], [], 0, [((1, 118, 0), .kon .i64 24), ((1, 118, 1), .kon .i64 8)], []⟩
def sg_ent24_9 : FSig := ⟨[.ptr 66 0 .env, .ptr 118 0 (.par 1)], .tup [.ak cs_r08_Frame [14], .bk true], [], 0, [((1, 118, 0), .kon .i64 24), ((1, 118, 1), .kon .i64 9)], []⟩
def sg_ent24_11 : FSig := ⟨[.ptr 66 0 .env, .ptr 118 0 (.par 1)], .tup [.ak cs_r08_Frame [0], .bk false], [], 0, [((1, 118, 0), .kon .i64 24), ((1, 118, 1), .kon .i64 11)], []⟩
def sg_ent24_12 : FSig := ⟨[.ptr 66 0 .env, .ptr 118 0 (.par 1)], .tup [.ak cs_r08_Frame [0], .bk false], [], 0, [((1, 118, 0), .kon .i64 24), ((1, 118, 1), .kon .i64 12)], []⟩
def sg_ent24_13 : FSig := ⟨[.ptr 66 0 .env, .ptr 118 0 (.par 1)], .tup [.ak cs_r08_Frame [0], .bk false], [], 0, [((1, 118, 0), .kon .i64 24), ((1, 118, 1), .kon .i64 13)], []⟩
def sg_ent24_14 : FSig := ⟨[.ptr 66 0 .env, .ptr 118 0 (.par 1)], .tup [.ak cs_r08_Frame [17], .bk true], [], 0, [((1, 118, 0), .kon .i64 24), ((1, 118, 1), .kon .i64 14)], []⟩
def sg_ent24_15 : FSig := ⟨[.ptr 66 0 .env, .ptr 118 0 (.par 1)], .tup [.ak cs_r08_Frame [0], .bk false], [], 0, [((1, 118, 0), .kon .i64 24), ((1, 118, 1), .kon .i64 15)], []⟩
def sg_ent24_16 : FSig := ⟨[.ptr 66 0 .env, .ptr 118 0 (.par 1)], .tup [.ak cs_r08_Frame [0], .bk false], [], 0, [((1, 118, 0), .kon .i64 24), ((1, 118, 1), .kon .i64 16)], []⟩
def sg_ent24_18 : FSig := ⟨[.ptr 66 0 .env, .ptr 118 0 (.par 1)], .tup [.ak cs_r08_Frame [0], .bk false], [], 0, [((1, 118, 0), .kon .i64 24), ((1, 118, 1), .kon .i64 18)], []⟩
def sg_ent24_19 : FSig := ⟨[.ptr 66 0 .env, .ptr 118 0 (.par 1)], .tup [.ak cs_r08_Frame [0], .bk false], [], 0, [((1, 118, 0), .kon .i64 24), ((1, 118, 1), .kon .i64 19)], []⟩
def sg_ent24_20 : FSig := ⟨[.ptr 66 0 .env, .ptr 118 0 (.par 1)], .tup [.ak cs_r08_Frame [15], .bk true], [], 0, [((1, 118, 0), .kon .i64 24), ((1, 118, 1), .kon .i64 20)], []⟩
def sg_ent24_21 : FSig := ⟨[.ptr 66 0 .env, .ptr 118 0 (.par 1)], .tup [.ak cs_r08_Frame [20], .bk true], [], 0, [((1, 118, 0), .kon .i64 24), ((1, 118, 1), .kon .i64 21)], []⟩
def sg_ent24_22 : FSig := ⟨[.ptr 66 0 .env, .ptr 118 0 (.par 1)], .tup [.ak cs_r08_Frame [14], .bk true], [], 0, [((1, 118, 0), .kon .i64 24), ((1, 118, 1), .kon .i64 22)], []⟩
def sg_run2A : FSig := ⟨[.ptr 66 0 .env, .ptr 118 0 (.par 1)], .v (.agg cs_r08_result), (effM ++ effF ++ effE ++ effR ++ [.par 1 118 17]), 2, [((1, 118, 1), .kon .i64 2), ((1, 118, 17), .val 0)], []⟩
def sg_run4A : FSig := ⟨[.ptr 66 0 .env, .ptr 118 0 (.par 1)], .v (.agg cs_r08_result), (effM ++ effF ++ effE ++ effR ++ [.par 1 118 17]), 2, [((1, 118, 1), .kon .i64 4), ((1, 118, 17), .val 0)], []⟩
def sg_run10A : FSig := ⟨[.ptr 66 0 .env, .ptr 118 0 (.par 1)], .v (.agg cs_r08_result), (effM ++ effF ++ effE ++ effR ++ [.par 1 118 17]), 2, [((1, 118, 1), .kon .i64 10), ((1, 118, 17), .val 0)], []⟩
def sg_run11A : FSig := ⟨[.ptr 66 0 .env, .ptr 118 0 (.par 1)], .v (.agg cs_r08_result), (effM ++ effF ++ effE ++ effR ++ [.par 1 118 17]), 2, [((1, 118, 1), .kon .i64 11), ((1, 118, 17), .val 0)], []⟩
def sg_run12A : FSig := ⟨[.ptr 66 0 .env, .ptr 118 0 (.par 1)], .v (.agg cs_r08_result), (effM ++ effF ++ effE ++ effR ++ [.par 1 118 17]), 2, [((1, 118, 1), .kon .i64 12), ((1, 118, 17), .val 0)], []⟩
def sg_run13A : FSig := ⟨[.ptr 66 0 .env, .ptr 118 0 (.par 1)], .v (.agg cs_r08_result), (effM ++ effF ++ effE ++ effR ++ [.par 1 118 17]), 2, [((1, 118, 1), .kon .i64 13), ((1, 118, 17), .val 0)], []⟩
def sg_run15A : FSig := ⟨[.ptr 66 0 .env, .ptr 118 0 (.par 1)], .v (.agg cs_r08_result), (effM ++ effF ++ effE ++ effR ++ [.par 1 118 17]), 2, [((1, 118, 1), .kon .i64 15), ((1, 118, 17), .val 0)], []⟩
def sg_run16A : FSig := ⟨[.ptr 66 0 .env, .ptr 118 0 (.par 1)], .v (.agg cs_r08_result), (effM ++ effF ++ effE ++ effR ++ [.par 1 118 17]), 2, [((1, 118, 1), .kon .i64 16), ((1, 118, 17), .val 0)], []⟩
def sg_topI : FSig := ⟨[.ptr 118 0 (.par 0)], .v (.c (.int .i64)), [], 0, [((0, 118, 17), .val 0)], []⟩
def ft_topI : List (Nat × FSig) := (156, sg_topI) :: ft_probe
def sg_run23A : FSig := ⟨[.ptr 66 0 .env, .ptr 118 0 (.par 1)], .v (.ak cs_r08_result [1]), (effM ++ effF ++ effE ++ effR ++ [.par 1 118 17]), 2, [((1, 118, 1), .kon .i64 23), ((1, 118, 17), .val 0)], []⟩
def sg_lf24_23A : FSig := ⟨[.ptr 66 0 .env, .ptr 118 0 (.par 1)], .v (.ak cs_r08_result [1]), (effM ++ effF ++ effE ++ effR ++ [.par 1 118 17]), 2, [((1, 118, 0), .kon .i64 24), ((1, 118, 1), .kon .i64 23), ((1, 118, 17), .val 0)], []⟩
def sg_fin17A : FSig := ⟨[.ptr 66 0 .env, .ptr 118 0 (.par 1), .ixe 19], .v (.agg cs_r08_result), (effM ++ effF ++ effE ++ effR ++ [.par 1 118 17]), 2, [((1, 118, 1), .kon .i64 17), ((1, 118, 17), .val 0)], []⟩
def sg_fin180 : FSig := ⟨[.ptr 66 0 .env, .ptr 118 0 (.par 1), .ixe 19], .v (.agg cs_r08_result), (effM ++ effF ++ effE ++ effR ++ [.par 1 118 17]), 2, [((1, 118, 1), .kon .i64 18), ((1, 118, 17), .val 0)], []⟩
def sg_fin190 : FSig := ⟨[.ptr 66 0 .env, .ptr 118 0 (.par 1), .ixe 19], .v (.agg cs_r08_result), (effM ++ effF ++ effE ++ effR ++ [.par 1 118 17]), 2, [((1, 118, 1), .kon .i64 19), ((1, 118, 17), .val 0)], []⟩
def sg_fin18N : FSig := ⟨[.ptr 66 0 .env, .ptr 118 0 (.par 1), .ixe 19], .v (.agg cs_r08_result), (effM ++ effF ++ effE ++ effR ++ [.par 1 118 17]), 2, [((1, 118, 1), .kon .i64 18), ((1, 118, 17), .val 0)], []⟩
def sg_fin19N : FSig := ⟨[.ptr 66 0 .env, .ptr 118 0 (.par 1), .ixe 19], .v (.agg cs_r08_result), (effM ++ effF ++ effE ++ effR ++ [.par 1 118 17]), 2, [((1, 118, 1), .kon .i64 19), ((1, 118, 17), .val 0)], []⟩
def sg_run17A : FSig := ⟨[.ptr 66 0 .env, .ptr 118 0 (.par 1)], .v (.agg cs_r08_result), (effM ++ effF ++ effE ++ effR ++ [.par 1 118 17]), 2, [((1, 118, 1), .kon .i64 17), ((1, 118, 17), .val 0)], []⟩
def sg_run180 : FSig := ⟨[.ptr 66 0 .env, .ptr 118 0 (.par 1)], .v (.agg cs_r08_result), (effM ++ effF ++ effE ++ effR ++ [.par 1 118 17]), 2, [((1, 118, 1), .kon .i64 18), ((1, 118, 17), .val 0)], []⟩
def sg_run190 : FSig := ⟨[.ptr 66 0 .env, .ptr 118 0 (.par 1)], .v (.agg cs_r08_result), (effM ++ effF ++ effE ++ effR ++ [.par 1 118 17]), 2, [((1, 118, 1), .kon .i64 19), ((1, 118, 17), .val 0)], []⟩
def sg_run18N : FSig := ⟨[.ptr 66 0 .env, .ptr 118 0 (.par 1)], .v (.agg cs_r08_result), (effM ++ effF ++ effE ++ effR ++ [.par 1 118 17]), 2, [((1, 118, 1), .kon .i64 18), ((1, 118, 17), .val 0)], []⟩
def sg_run19N : FSig := ⟨[.ptr 66 0 .env, .ptr 118 0 (.par 1)], .v (.agg cs_r08_result), (effM ++ effF ++ effE ++ effR ++ [.par 1 118 17]), 2, [((1, 118, 1), .kon .i64 19), ((1, 118, 17), .val 0)], []⟩
def sg_bkr6A : FSig := ⟨[.ptr 66 0 .env, .ptr 118 0 (.par 1), .v (.c (.int .i64)), .v (.c (.int .i64))], .v (.agg cs_r08_result), (effM ++ effF ++ effE ++ effR ++ [.par 1 118 17]), 5, [((1, 118, 1), .kon .i64 6), ((1, 118, 17), .val 0)], []⟩
def sg_bkr7A : FSig := ⟨[.ptr 66 0 .env, .ptr 118 0 (.par 1), .v (.c (.int .i64)), .v (.c (.int .i64))], .v (.agg cs_r08_result), (effM ++ effF ++ effE ++ effR ++ [.par 1 118 17]), 5, [((1, 118, 1), .kon .i64 7), ((1, 118, 17), .val 0)], []⟩
def sg_bkr8A : FSig := ⟨[.ptr 66 0 .env, .ptr 118 0 (.par 1), .v (.c (.int .i64)), .v (.c (.int .i64))], .v (.agg cs_r08_result), (effM ++ effF ++ effE ++ effR ++ [.par 1 118 17]), 5, [((1, 118, 1), .kon .i64 8), ((1, 118, 17), .val 0)], []⟩
def sg_bkr20A : FSig := ⟨[.ptr 66 0 .env, .ptr 118 0 (.par 1), .v (.c (.int .i64)), .v (.c (.int .i64))], .v (.agg cs_r08_result), (effM ++ effF ++ effE ++ effR ++ [.par 1 118 17]), 5, [((1, 118, 1), .kon .i64 20), ((1, 118, 17), .val 0)], []⟩
def sg_bkr9A : FSig := ⟨[.ptr 66 0 .env, .ptr 118 0 (.par 1), .v (.c (.int .i64)), .v (.c (.int .i64))], .v (.agg cs_r08_result), (effM ++ effF ++ effE ++ effR ++ [.par 1 118 17]), 5, [((1, 118, 1), .kon .i64 9), ((1, 118, 17), .val 0)], []⟩
def sg_bkr140 : FSig := ⟨[.ptr 66 0 .env, .ptr 118 0 (.par 1), .v (.c (.int .i64)), .v (.c (.int .i64))], .v (.agg cs_r08_result), (effM ++ effF ++ effE ++ effR ++ [.par 1 118 17]), 5, [((1, 118, 1), .kon .i64 14), ((1, 118, 17), .val 0)], []⟩
def sg_bkr210 : FSig := ⟨[.ptr 66 0 .env, .ptr 118 0 (.par 1), .v (.c (.int .i64)), .v (.c (.int .i64))], .v (.agg cs_r08_result), (effM ++ effF ++ effE ++ effR ++ [.par 1 118 17]), 5, [((1, 118, 1), .kon .i64 21), ((1, 118, 17), .val 0)], []⟩
def sg_bkr220 : FSig := ⟨[.ptr 66 0 .env, .ptr 118 0 (.par 1), .ne .i64 1, .v (.c (.int .i64))], .v (.agg cs_r08_result), (effM ++ effF ++ effE ++ effR ++ [.par 1 118 17]), 5, [((1, 118, 1), .kon .i64 22), ((1, 118, 17), .val 0)], []⟩
def sg_bkr14N : FSig := ⟨[.ptr 66 0 .env, .ptr 118 0 (.par 1), .v (.c (.int .i64)), .v (.c (.int .i64))], .v (.agg cs_r08_result), (effM ++ effF ++ effE ++ effR ++ [.par 1 118 17]), 5, [((1, 118, 1), .kon .i64 14), ((1, 118, 17), .val 0)], []⟩
def sg_bkr21N : FSig := ⟨[.ptr 66 0 .env, .ptr 118 0 (.par 1), .v (.c (.int .i64)), .v (.c (.int .i64))], .v (.agg cs_r08_result), (effM ++ effF ++ effE ++ effR ++ [.par 1 118 17]), 5, [((1, 118, 1), .kon .i64 21), ((1, 118, 17), .val 0)], []⟩
def sg_bkr22N : FSig := ⟨[.ptr 66 0 .env, .ptr 118 0 (.par 1), .ne .i64 1, .v (.c (.int .i64))], .v (.agg cs_r08_result), (effM ++ effF ++ effE ++ effR ++ [.par 1 118 17]), 5, [((1, 118, 1), .kon .i64 22), ((1, 118, 17), .val 0)], []⟩
def sg_lf24_2A : FSig := ⟨[.ptr 66 0 .env, .ptr 118 0 (.par 1)], .v (.agg cs_r08_result), (effM ++ effF ++ effE ++ effR ++ [.par 1 118 17]), 2, [((1, 118, 0), .kon .i64 24), ((1, 118, 1), .kon .i64 2), ((1, 118, 17), .val 0)], []⟩
def sg_lf24_4A : FSig := ⟨[.ptr 66 0 .env, .ptr 118 0 (.par 1)], .v (.agg cs_r08_result), (effM ++ effF ++ effE ++ effR ++ [.par 1 118 17]), 2, [((1, 118, 0), .kon .i64 24), ((1, 118, 1), .kon .i64 4), ((1, 118, 17), .val 0)], []⟩
def sg_lf24_10A : FSig := ⟨[.ptr 66 0 .env, .ptr 118 0 (.par 1)], .v (.agg cs_r08_result), (effM ++ effF ++ effE ++ effR ++ [.par 1 118 17]), 2, [((1, 118, 0), .kon .i64 24), ((1, 118, 1), .kon .i64 10), ((1, 118, 17), .val 0)], []⟩
def sg_lf24_11A : FSig := ⟨[.ptr 66 0 .env, .ptr 118 0 (.par 1)], .v (.agg cs_r08_result), (effM ++ effF ++ effE ++ effR ++ [.par 1 118 17]), 2, [((1, 118, 0), .kon .i64 24), ((1, 118, 1), .kon .i64 11), ((1, 118, 17), .val 0)], []⟩
def sg_lf24_12A : FSig := ⟨[.ptr 66 0 .env, .ptr 118 0 (.par 1)], .v (.agg cs_r08_result), (effM ++ effF ++ effE ++ effR ++ [.par 1 118 17]), 2, [((1, 118, 0), .kon .i64 24), ((1, 118, 1), .kon .i64 12), ((1, 118, 17), .val 0)], []⟩
def sg_lf24_13A : FSig := ⟨[.ptr 66 0 .env, .ptr 118 0 (.par 1)], .v (.agg cs_r08_result), (effM ++ effF ++ effE ++ effR ++ [.par 1 118 17]), 2, [((1, 118, 0), .kon .i64 24), ((1, 118, 1), .kon .i64 13), ((1, 118, 17), .val 0)], []⟩
def sg_lf24_15A : FSig := ⟨[.ptr 66 0 .env, .ptr 118 0 (.par 1)], .v (.agg cs_r08_result), (effM ++ effF ++ effE ++ effR ++ [.par 1 118 17]), 2, [((1, 118, 0), .kon .i64 24), ((1, 118, 1), .kon .i64 15), ((1, 118, 17), .val 0)], []⟩
def sg_lf24_16A : FSig := ⟨[.ptr 66 0 .env, .ptr 118 0 (.par 1)], .v (.agg cs_r08_result), (effM ++ effF ++ effE ++ effR ++ [.par 1 118 17]), 2, [((1, 118, 0), .kon .i64 24), ((1, 118, 1), .kon .i64 16), ((1, 118, 17), .val 0)], []⟩
def sg_lf24_17A : FSig := ⟨[.ptr 66 0 .env, .ptr 118 0 (.par 1)], .v (.agg cs_r08_result), (effM ++ effF ++ effE ++ effR ++ [.par 1 118 17]), 2, [((1, 118, 0), .kon .i64 24), ((1, 118, 1), .kon .i64 17), ((1, 118, 17), .val 0)], []⟩
def sg_lf24_180 : FSig := ⟨[.ptr 66 0 .env, .ptr 118 0 (.par 1)], .v (.agg cs_r08_result), (effM ++ effF ++ effE ++ effR ++ [.par 1 118 17]), 2, [((1, 118, 0), .kon .i64 24), ((1, 118, 1), .kon .i64 18), ((1, 118, 17), .val 0)], []⟩
def sg_lf24_190 : FSig := ⟨[.ptr 66 0 .env, .ptr 118 0 (.par 1)], .v (.agg cs_r08_result), (effM ++ effF ++ effE ++ effR ++ [.par 1 118 17]), 2, [((1, 118, 0), .kon .i64 24), ((1, 118, 1), .kon .i64 19), ((1, 118, 17), .val 0)], []⟩
def sg_lf24_18N : FSig := ⟨[.ptr 66 0 .env, .ptr 118 0 (.par 1)], .v (.agg cs_r08_result), (effM ++ effF ++ effE ++ effR ++ [.par 1 118 17]), 2, [((1, 118, 0), .kon .i64 24), ((1, 118, 1), .kon .i64 18), ((1, 118, 17), .val 0)], []⟩
def sg_lf24_19N : FSig := ⟨[.ptr 66 0 .env, .ptr 118 0 (.par 1)], .v (.agg cs_r08_result), (effM ++ effF ++ effE ++ effR ++ [.par 1 118 17]), 2, [((1, 118, 0), .kon .i64 24), ((1, 118, 1), .kon .i64 19), ((1, 118, 17), .val 0)], []⟩
def sg_bk24_6A : FSig := ⟨[.ptr 66 0 .env, .ptr 118 0 (.par 1), .v (.c (.int .i64)), .v (.c (.int .i64))], .v (.agg cs_r08_result), (effM ++ effF ++ effE ++ effR ++ [.par 1 118 17]), 5, [((1, 118, 0), .kon .i64 24), ((1, 118, 1), .kon .i64 6), ((1, 118, 17), .val 0)], []⟩
def sg_bk24_7A : FSig := ⟨[.ptr 66 0 .env, .ptr 118 0 (.par 1), .v (.c (.int .i64)), .v (.c (.int .i64))], .v (.agg cs_r08_result), (effM ++ effF ++ effE ++ effR ++ [.par 1 118 17]), 5, [((1, 118, 0), .kon .i64 24), ((1, 118, 1), .kon .i64 7), ((1, 118, 17), .val 0)], []⟩
def sg_bk24_8A : FSig := ⟨[.ptr 66 0 .env, .ptr 118 0 (.par 1), .v (.c (.int .i64)), .v (.c (.int .i64))], .v (.agg cs_r08_result), (effM ++ effF ++ effE ++ effR ++ [.par 1 118 17]), 5, [((1, 118, 0), .kon .i64 24), ((1, 118, 1), .kon .i64 8), ((1, 118, 17), .val 0)], []⟩
def sg_bk24_20A : FSig := ⟨[.ptr 66 0 .env, .ptr 118 0 (.par 1), .v (.c (.int .i64)), .v (.c (.int .i64))], .v (.agg cs_r08_result), (effM ++ effF ++ effE ++ effR ++ [.par 1 118 17]), 5, [((1, 118, 0), .kon .i64 24), ((1, 118, 1), .kon .i64 20), ((1, 118, 17), .val 0)], []⟩
def sg_bk24_9A : FSig := ⟨[.ptr 66 0 .env, .ptr 118 0 (.par 1), .v (.c (.int .i64)), .v (.c (.int .i64))], .v (.agg cs_r08_result), (effM ++ effF ++ effE ++ effR ++ [.par 1 118 17]), 5, [((1, 118, 0), .kon .i64 24), ((1, 118, 1), .kon .i64 9), ((1, 118, 17), .val 0)], []⟩
def sg_bk24_140 : FSig := ⟨[.ptr 66 0 .env, .ptr 118 0 (.par 1), .v (.c (.int .i64)), .v (.c (.int .i64))], .v (.agg cs_r08_result), (effM ++ effF ++ effE ++ effR ++ [.par 1 118 17]), 5, [((1, 118, 0), .kon .i64 24), ((1, 118, 1), .kon .i64 14), ((1, 118, 17), .val 0)], []⟩
def sg_bk24_210 : FSig := ⟨[.ptr 66 0 .env, .ptr 118 0 (.par 1), .v (.c (.int .i64)), .v (.c (.int .i64))], .v (.agg cs_r08_result), (effM ++ effF ++ effE ++ effR ++ [.par 1 118 17]), 5, [((1, 118, 0), .kon .i64 24), ((1, 118, 1), .kon .i64 21), ((1, 118, 17), .val 0)], []⟩
def sg_bk24_220 : FSig := ⟨[.ptr 66 0 .env, .ptr 118 0 (.par 1), .ne .i64 1, .v (.c (.int .i64))], .v (.agg cs_r08_result), (effM ++ effF ++ effE ++ effR ++ [.par 1 118 17]), 5, [((1, 118, 0), .kon .i64 24), ((1, 118, 1), .kon .i64 22), ((1, 118, 17), .val 0)], []⟩
def sg_bk24_14N : FSig := ⟨[.ptr 66 0 .env, .ptr 118 0 (.par 1), .v (.c (.int .i64)), .v (.c (.int .i64))], .v (.agg cs_r08_result), (effM ++ effF ++ effE ++ effR ++ [.par 1 118 17]), 5, [((1, 118, 0), .kon .i64 24), ((1, 118, 1), .kon .i64 14), ((1, 118, 17), .val 0)], []⟩
def sg_bk24_21N : FSig := ⟨[.ptr 66 0 .env, .ptr 118 0 (.par 1), .v (.c (.int .i64)), .v (.c (.int .i64))], .v (.agg cs_r08_result), (effM ++ effF ++ effE ++ effR ++ [.par 1 118 17]), 5, [((1, 118, 0), .kon .i64 24), ((1, 118, 1), .kon .i64 21), ((1, 118, 17), .val 0)], []⟩
def sg_bk24_22N : FSig := ⟨[.ptr 66 0 .env, .ptr 118 0 (.par 1), .ne .i64 1, .v (.c (.int .i64))], .v (.agg cs_r08_result), (effM ++ effF ++ effE ++ effR ++ [.par 1 118 17]), 5, [((1, 118, 0), .kon .i64 24), ((1, 118, 1), .kon .i64 22), ((1, 118, 17), .val 0)], []⟩
def sg_topV : FSig := ⟨[.ptr 118 0 (.par 0)], .ixe 19, [], 0, [((0, 118, 17), .vsl 0 3 1)], []⟩
def ft_topV : List (Nat × FSig) := (156, sg_topV) :: ft_probe
def sg_bkr22G : FSig := ⟨[.ptr 66 0 .env, .ptr 118 0 (.par 1), .kon .i64 1, .v (.c (.int .i64))], .v (.agg cs_r08_result), (effM ++ effF ++ effE ++ effR ++ [.par 1 118 17]), 5, [((1, 118, 1), .kon .i64 22), ((1, 118, 17), .vsl 0 3 1)], []⟩
def sg_bk24_22G : FSig := ⟨[.ptr 66 0 .env, .ptr 118 0 (.par 1), .kon .i64 1, .v (.c (.int .i64))], .v (.agg cs_r08_result), (effM ++ effF ++ effE ++ effR ++ [.par 1 118 17]), 5, [((1, 118, 0), .kon .i64 24), ((1, 118, 1), .kon .i64 22), ((1, 118, 17), .vsl 0 3 1)], []⟩
def sg_clientA : FSig := ⟨[.ptr 66 0 .env, .ptr 118 0 (.par 1)], .v (.agg cs_r08_result), (effM ++ effF ++ effE ++ effR), 2, [((1, 118, 9), .ixe 10)], []⟩
def sg_lf26 : FSig := ⟨[.ptr 66 0 .env, .ptr 118 0 (.par 1)], .v (.agg cs_r08_result), (effM ++ effF ++ effE ++ effR), 2, [((1, 118, 0), .kon .i64 26), ((1, 118, 9), .ixe 10)], []⟩
def sg_clientO : FSig := ⟨[.ptr 66 0 .env, .ptr 118 0 (.par 1)], .v (.ak cs_r08_result [1]), (effM ++ effF ++ effE ++ effR), 2, [((1, 118, 9), .oob 10)], []⟩
def sg_lf26_O : FSig := ⟨[.ptr 66 0 .env, .ptr 118 0 (.par 1)], .v (.ak cs_r08_result [1]), (effM ++ effF ++ effE ++ effR), 2, [((1, 118, 0), .kon .i64 26), ((1, 118, 9), .oob 10)], []⟩
def sg_followA : FSig := ⟨[.ptr 66 0 .env, .ptr 118 0 (.par 1)], .v (.agg cs_r08_result), effF, 0, [((1, 118, 9), .ixe 10)], []⟩
def sg_bkc3 : FSig := ⟨[.ptr 66 0 .env, .ptr 118 0 (.par 1), .v (.c (.int .i64)), .ixe 19], .v (.agg cs_r08_result), (effM ++ effF ++ effE ++ effR), 2, [((1, 118, 1), .kon .i64 3), ((1, 118, 9), .ixe 10)], []⟩
def sg_bkc3F : FSig := ⟨[.ptr 66 0 .env, .ptr 118 0 (.par 1), .kon .i64 3, .v (.c (.int .i64))], .v (.agg cs_r08_result), (effM ++ effF ++ effE ++ effR), 2, [((1, 118, 1), .kon .i64 3), ((1, 118, 9), .ixe 10)], []⟩
def sg_bkcN : FSig := ⟨[.ptr 66 0 .env, .ptr 118 0 (.par 1), .v (.c (.int .i64)), .v (.c (.int .i64))], .v (.agg cs_r08_result), (effM ++ effF ++ effE ++ effR), 2, [((1, 118, 1), .ne .i64 3), ((1, 118, 9), .ixe 10)], []⟩
def sg_bk26_3 : FSig := ⟨[.ptr 66 0 .env, .ptr 118 0 (.par 1), .v (.c (.int .i64)), .ixe 19], .v (.agg cs_r08_result), (effM ++ effF ++ effE ++ effR), 2, [((1, 118, 0), .kon .i64 26), ((1, 118, 1), .kon .i64 3), ((1, 118, 9), .ixe 10)], []⟩
def sg_bk26_3F : FSig := ⟨[.ptr 66 0 .env, .ptr 118 0 (.par 1), .kon .i64 3, .v (.c (.int .i64))], .v (.agg cs_r08_result), (effM ++ effF ++ effE ++ effR), 2, [((1, 118, 0), .kon .i64 26), ((1, 118, 1), .kon .i64 3), ((1, 118, 9), .ixe 10)], []⟩
def sg_bk26_N : FSig := ⟨[.ptr 66 0 .env, .ptr 118 0 (.par 1), .v (.c (.int .i64)), .v (.c (.int .i64))], .v (.agg cs_r08_result), (effM ++ effF ++ effE ++ effR), 2, [((1, 118, 0), .kon .i64 26), ((1, 118, 1), .ne .i64 3), ((1, 118, 9), .ixe 10)], []⟩
def sg_leave0 : FSig := ⟨[.ptr 118 0 (.par 0)], .v (.ak cs_r08_result [1]), [.par 0 118 1, .par 0 118 17], 0, [((0, 118, 17), .val 0)], []⟩
def sg_leaveN : FSig := ⟨[.ptr 118 0 (.par 0)], .v (.ak cs_r08_result [0]), [.par 0 118 1, .par 0 118 17], 0, [((0, 118, 17), .val 0)], [((0, 118, 17), .val 1), ((0, 118, 1), .kon .i64 1)]⟩
def faLook : List (Nat × FSig × List (AT × Hm)) → Nat → Option (FSig × List (AT × Hm))
  | [], _ => none
  | (d, e) :: l, t => cond (Nat.beq d t) (some e) (faLook l t)
theorem hfa_nil {P : Program} : ∀ f q, faLook [] f = some q → Callable P f ∧ TCa P kd sh B G f q.1 q.2 := fun _ _ h => by cases h
theorem hfa_cons {P : Program} {l : List (Nat × FSig × List (AT × Hm))} {g : Nat} {t : FSig × List (AT × Hm)} (hc : Callable P g) (ht : TCa P kd sh B G g t.1 t.2) (h : ∀ f q, faLook l f = some q → Callable P f ∧ TCa P kd sh B G f q.1 q.2) : ∀ f q, faLook ((g, t) :: l) f = some q → Callable P f ∧ TCa P kd sh B G f q.1 q.2 := by
  intro f q hf
  simp only [faLook] at hf
  cases hb : Nat.beq g f with
  | true =>
    rw [hb] at hf
    cases hf
    obtain rfl := Nat.eq_of_beq_eq_true hb
    exact ⟨hc, ht⟩
  | false => rw [hb] at hf; exact h f q hf
theorem tca_of_tc {P : Program} {f : FuncId} {s : FSig} (h : TC P kd sh B G f s) : TCa P kd sh B G f s [(s.res, s.post)] := by
  intro N w args h1 h2 h3 h4 h5 h6 h7
  refine (h N w args h1 h2 h3 h4 h5 h6 h7).mono ?_
  rintro e w' ⟨v, rfl, g1, g2, g3, g4⟩
  exact ⟨v, rfl, g1, g2, (s.res, s.post), List.mem_singleton.2 rfl, g3, g4⟩
theorem call_choose : Callable Tryz.prog 132 := callable_of Tryz.func132 (by kernel_rfl) (by kernel_rfl)
theorem call_enterRun : Callable Tryz.prog 87 := callable_of Tryz.func87 (by kernel_rfl) (by kernel_rfl)
theorem call_enterClient : Callable Tryz.prog 89 := callable_of Tryz.func89 (by kernel_rfl) (by kernel_rfl)
theorem call_leave : Callable Tryz.prog 160 := callable_of Tryz.func160 (by kernel_rfl) (by kernel_rfl)
theorem call_run : Callable Tryz.prog 110 := callable_of Tryz.func110 (by kernel_rfl) (by kernel_rfl)
theorem call_finish : Callable Tryz.prog 159 := callable_of Tryz.func159 (by kernel_rfl) (by kernel_rfl)
theorem call_backRun : Callable Tryz.prog 116 := callable_of Tryz.func116 (by kernel_rfl) (by kernel_rfl)
theorem call_client : Callable Tryz.prog 111 := callable_of Tryz.func111 (by kernel_rfl) (by kernel_rfl)
theorem call_backClient : Callable Tryz.prog 118 := callable_of Tryz.func118 (by kernel_rfl) (by kernel_rfl)
end Go.Proofs.YtncnepmgmphanaaGreatDoor
