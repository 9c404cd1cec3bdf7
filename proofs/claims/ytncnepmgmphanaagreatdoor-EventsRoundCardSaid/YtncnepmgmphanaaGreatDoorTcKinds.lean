/- The frames of the reference by kinds and lines: contracts by types (printed by gen_tc2.py). No condition beside those named. -/
import Derived.Test.YtncnepmgmphanaaGreatDoorTcFns
set_option linter.unusedVariables false
set_option linter.unusedSimpArgs false
set_option linter.unusedSectionVars false
namespace Go.Proofs.YtncnepmgmphanaaGreatDoor
variable {sh : Sh} {B : Nat} {G : World → Prop}
def sg_claimR : FSig := { sg_claim with pre := [((1, 118, 7), .ixe 19)] }
def sg_leaf0 : FSig := ⟨[.ptr 66 0 .env, .ptr 118 0 (.par 1)], .v (.agg cs_r08_result), (effM ++ effF ++ effE ++ effR), 2, [((1, 118, 0), .kon .i64 0)], []⟩
def sg_back0 : FSig := ⟨[.ptr 66 0 .env, .ptr 118 0 (.par 1), .v (.c (.int .i64)), .v (.c (.int .i64))], .v (.agg cs_r08_result), (effM ++ effF ++ effE ++ effR), 3, [((1, 118, 0), .kon .i64 0)], []⟩
def sg_leaf1 : FSig := ⟨[.ptr 66 0 .env, .ptr 118 0 (.par 1)], .v (.agg cs_r08_result), (effM ++ effF ++ effE ++ effR), 2, [((1, 118, 0), .kon .i64 1)], []⟩
def sg_back1 : FSig := ⟨[.ptr 66 0 .env, .ptr 118 0 (.par 1), .v (.c (.int .i64)), .v (.c (.int .i64))], .v (.agg cs_r08_result), (effM ++ effF ++ effE ++ effR), 3, [((1, 118, 0), .kon .i64 1)], []⟩
def sg_leaf2 : FSig := ⟨[.ptr 66 0 .env, .ptr 118 0 (.par 1)], .v (.agg cs_r08_result), (effM ++ effF ++ effE ++ effR), 2, [((1, 118, 0), .kon .i64 2)], []⟩
def sg_back2 : FSig := ⟨[.ptr 66 0 .env, .ptr 118 0 (.par 1), .v (.c (.int .i64)), .v (.c (.int .i64))], .v (.agg cs_r08_result), (effM ++ effF ++ effE ++ effR), 3, [((1, 118, 0), .kon .i64 2)], []⟩
def sg_leaf3 : FSig := ⟨[.ptr 66 0 .env, .ptr 118 0 (.par 1)], .v (.agg cs_r08_result), (effM ++ effF ++ effE ++ effR), 2, [((1, 118, 0), .kon .i64 3)], []⟩
def sg_back3 : FSig := ⟨[.ptr 66 0 .env, .ptr 118 0 (.par 1), .v (.c (.int .i64)), .v (.c (.int .i64))], .v (.agg cs_r08_result), (effM ++ effF ++ effE ++ effR), 3, [((1, 118, 0), .kon .i64 3)], []⟩
def sg_leaf4 : FSig := ⟨[.ptr 66 0 .env, .ptr 118 0 (.par 1)], .v (.agg cs_r08_result), (effM ++ effF ++ effE ++ effR), 2, [((1, 118, 0), .kon .i64 4)], []⟩
def sg_back4 : FSig := ⟨[.ptr 66 0 .env, .ptr 118 0 (.par 1), .v (.c (.int .i64)), .v (.c (.int .i64))], .v (.agg cs_r08_result), (effM ++ effF ++ effE ++ effR), 3, [((1, 118, 0), .kon .i64 4)], []⟩
def sg_leaf5 : FSig := ⟨[.ptr 66 0 .env, .ptr 118 0 (.par 1)], .v (.agg cs_r08_result), (effM ++ effF ++ effE ++ effR), 2, [((1, 118, 0), .kon .i64 5)], []⟩
def sg_back5 : FSig := ⟨[.ptr 66 0 .env, .ptr 118 0 (.par 1), .v (.c (.int .i64)), .v (.c (.int .i64))], .v (.agg cs_r08_result), (effM ++ effF ++ effE ++ effR), 3, [((1, 118, 0), .kon .i64 5)], []⟩
def sg_leaf6 : FSig := ⟨[.ptr 66 0 .env, .ptr 118 0 (.par 1)], .v (.agg cs_r08_result), (effM ++ effF ++ effE ++ effR), 2, [((1, 118, 0), .kon .i64 6)], []⟩
def sg_back6 : FSig := ⟨[.ptr 66 0 .env, .ptr 118 0 (.par 1), .v (.c (.int .i64)), .v (.c (.int .i64))], .v (.agg cs_r08_result), (effM ++ effF ++ effE ++ effR), 3, [((1, 118, 0), .kon .i64 6)], []⟩
def sg_leaf7 : FSig := ⟨[.ptr 66 0 .env, .ptr 118 0 (.par 1)], .v (.agg cs_r08_result), (effM ++ effF ++ effE ++ effR), 2, [((1, 118, 0), .kon .i64 7)], []⟩
def sg_back7 : FSig := ⟨[.ptr 66 0 .env, .ptr 118 0 (.par 1), .v (.c (.int .i64)), .v (.c (.int .i64))], .v (.agg cs_r08_result), (effM ++ effF ++ effE ++ effR), 3, [((1, 118, 0), .kon .i64 7)], []⟩
def sg_leaf8 : FSig := ⟨[.ptr 66 0 .env, .ptr 118 0 (.par 1)], .v (.agg cs_r08_result), (effM ++ effF ++ effE ++ effR), 2, [((1, 118, 0), .kon .i64 8)], []⟩
def sg_back8 : FSig := ⟨[.ptr 66 0 .env, .ptr 118 0 (.par 1), .v (.c (.int .i64)), .v (.c (.int .i64))], .v (.agg cs_r08_result), (effM ++ effF ++ effE ++ effR), 3, [((1, 118, 0), .kon .i64 8)], []⟩
def sg_leaf9 : FSig := ⟨[.ptr 66 0 .env, .ptr 118 0 (.par 1)], .v (.agg cs_r08_result), (effM ++ effF ++ effE ++ effR), 2, [((1, 118, 0), .kon .i64 9)], []⟩
def sg_back9 : FSig := ⟨[.ptr 66 0 .env, .ptr 118 0 (.par 1), .v (.c (.int .i64)), .v (.c (.int .i64))], .v (.agg cs_r08_result), (effM ++ effF ++ effE ++ effR), 3, [((1, 118, 0), .kon .i64 9)], []⟩
def sg_leaf10 : FSig := ⟨[.ptr 66 0 .env, .ptr 118 0 (.par 1)], .v (.agg cs_r08_result), (effM ++ effF ++ effE ++ effR), 2, [((1, 118, 0), .kon .i64 10)], []⟩
def sg_back10 : FSig := ⟨[.ptr 66 0 .env, .ptr 118 0 (.par 1), .v (.c (.int .i64)), .v (.c (.int .i64))], .v (.agg cs_r08_result), (effM ++ effF ++ effE ++ effR), 3, [((1, 118, 0), .kon .i64 10)], []⟩
def sg_leaf11 : FSig := ⟨[.ptr 66 0 .env, .ptr 118 0 (.par 1)], .v (.agg cs_r08_result), (effM ++ effF ++ effE ++ effR), 2, [((1, 118, 0), .kon .i64 11)], []⟩
def sg_back11 : FSig := ⟨[.ptr 66 0 .env, .ptr 118 0 (.par 1), .v (.c (.int .i64)), .v (.c (.int .i64))], .v (.agg cs_r08_result), (effM ++ effF ++ effE ++ effR), 3, [((1, 118, 0), .kon .i64 11)], []⟩
def sg_leaf12 : FSig := ⟨[.ptr 66 0 .env, .ptr 118 0 (.par 1)], .v (.agg cs_r08_result), (effM ++ effF ++ effE ++ effR), 2, [((1, 118, 0), .kon .i64 12)], []⟩
def sg_back12 : FSig := ⟨[.ptr 66 0 .env, .ptr 118 0 (.par 1), .v (.c (.int .i64)), .v (.c (.int .i64))], .v (.agg cs_r08_result), (effM ++ effF ++ effE ++ effR), 3, [((1, 118, 0), .kon .i64 12)], []⟩
def sg_leaf13 : FSig := ⟨[.ptr 66 0 .env, .ptr 118 0 (.par 1)], .v (.agg cs_r08_result), (effM ++ effF ++ effE ++ effR), 2, [((1, 118, 0), .kon .i64 13)], []⟩
def sg_back13 : FSig := ⟨[.ptr 66 0 .env, .ptr 118 0 (.par 1), .v (.c (.int .i64)), .v (.c (.int .i64))], .v (.agg cs_r08_result), (effM ++ effF ++ effE ++ effR), 3, [((1, 118, 0), .kon .i64 13)], []⟩
def sg_leaf14 : FSig := ⟨[.ptr 66 0 .env, .ptr 118 0 (.par 1)], .v (.agg cs_r08_result), (effM ++ effF ++ effE ++ effR), 2, [((1, 118, 0), .kon .i64 14)], []⟩
def sg_back14 : FSig := ⟨[.ptr 66 0 .env, .ptr 118 0 (.par 1), .v (.c (.int .i64)), .v (.c (.int .i64))], .v (.agg cs_r08_result), (effM ++ effF ++ effE ++ effR), 3, [((1, 118, 0), .kon .i64 14)], []⟩
def sg_leaf15 : FSig := ⟨[.ptr 66 0 .env, .ptr 118 0 (.par 1)], .v (.agg cs_r08_result), (effM ++ effF ++ effE ++ effR), 2, [((1, 118, 0), .kon .i64 15)], []⟩
def sg_back15 : FSig := ⟨[.ptr 66 0 .env, .ptr 118 0 (.par 1), .v (.c (.int .i64)), .v (.c (.int .i64))], .v (.agg cs_r08_result), (effM ++ effF ++ effE ++ effR), 3, [((1, 118, 0), .kon .i64 15)], []⟩
def sg_leaf16 : FSig := ⟨[.ptr 66 0 .env, .ptr 118 0 (.par 1)], .v (.agg cs_r08_result), (effM ++ effF ++ effE ++ effR), 2, [((1, 118, 0), .kon .i64 16)], []⟩
def sg_back16 : FSig := ⟨[.ptr 66 0 .env, .ptr 118 0 (.par 1), .v (.c (.int .i64)), .v (.c (.int .i64))], .v (.agg cs_r08_result), (effM ++ effF ++ effE ++ effR), 3, [((1, 118, 0), .kon .i64 16)], []⟩
def sg_leaf17 : FSig := ⟨[.ptr 66 0 .env, .ptr 118 0 (.par 1)], .v (.agg cs_r08_result), (effM ++ effF ++ effE ++ effR), 2, [((1, 118, 0), .kon .i64 17)], []⟩
def sg_back17 : FSig := ⟨[.ptr 66 0 .env, .ptr 118 0 (.par 1), .v (.c (.int .i64)), .v (.c (.int .i64))], .v (.agg cs_r08_result), (effM ++ effF ++ effE ++ effR), 3, [((1, 118, 0), .kon .i64 17)], []⟩
def sg_leaf18 : FSig := ⟨[.ptr 66 0 .env, .ptr 118 0 (.par 1)], .v (.agg cs_r08_result), (effM ++ effF ++ effE ++ effR), 2, [((1, 118, 0), .kon .i64 18)], []⟩
def sg_back18 : FSig := ⟨[.ptr 66 0 .env, .ptr 118 0 (.par 1), .v (.c (.int .i64)), .v (.c (.int .i64))], .v (.agg cs_r08_result), (effM ++ effF ++ effE ++ effR), 3, [((1, 118, 0), .kon .i64 18)], []⟩
def sg_leaf19 : FSig := ⟨[.ptr 66 0 .env, .ptr 118 0 (.par 1)], .v (.agg cs_r08_result), (effM ++ effF ++ effE ++ effR), 2, [((1, 118, 0), .kon .i64 19)], []⟩
def sg_back19 : FSig := ⟨[.ptr 66 0 .env, .ptr 118 0 (.par 1), .v (.c (.int .i64)), .v (.c (.int .i64))], .v (.agg cs_r08_result), (effM ++ effF ++ effE ++ effR), 3, [((1, 118, 0), .kon .i64 19)], []⟩
def sg_leaf20 : FSig := ⟨[.ptr 66 0 .env, .ptr 118 0 (.par 1)], .v (.agg cs_r08_result), (effM ++ effF ++ effE ++ effR), 2, [((1, 118, 0), .kon .i64 20)], []⟩
def sg_back20 : FSig := ⟨[.ptr 66 0 .env, .ptr 118 0 (.par 1), .v (.c (.int .i64)), .v (.c (.int .i64))], .v (.agg cs_r08_result), (effM ++ effF ++ effE ++ effR), 3, [((1, 118, 0), .kon .i64 20)], []⟩
def sg_leaf21 : FSig := ⟨[.ptr 66 0 .env, .ptr 118 0 (.par 1)], .v (.agg cs_r08_result), (effM ++ effF ++ effE ++ effR), 2, [((1, 118, 0), .kon .i64 21)], []⟩
def sg_back21 : FSig := ⟨[.ptr 66 0 .env, .ptr 118 0 (.par 1), .v (.c (.int .i64)), .v (.c (.int .i64))], .v (.agg cs_r08_result), (effM ++ effF ++ effE ++ effR), 3, [((1, 118, 0), .kon .i64 21)], []⟩
def sg_leaf22 : FSig := ⟨[.ptr 66 0 .env, .ptr 118 0 (.par 1)], .v (.agg cs_r08_result), (effM ++ effF ++ effE ++ effR), 2, [((1, 118, 0), .kon .i64 22)], []⟩
def sg_back22 : FSig := ⟨[.ptr 66 0 .env, .ptr 118 0 (.par 1), .v (.c (.int .i64)), .v (.c (.int .i64))], .v (.agg cs_r08_result), (effM ++ effF ++ effE ++ effR), 3, [((1, 118, 0), .kon .i64 22)], []⟩
def sg_leaf23 : FSig := ⟨[.ptr 66 0 .env, .ptr 118 0 (.par 1)], .v (.agg cs_r08_result), (effM ++ effF ++ effE ++ effR), 2, [((1, 118, 0), .kon .i64 23)], []⟩
def sg_back23 : FSig := ⟨[.ptr 66 0 .env, .ptr 118 0 (.par 1), .v (.c (.int .i64)), .v (.c (.int .i64))], .v (.agg cs_r08_result), (effM ++ effF ++ effE ++ effR), 3, [((1, 118, 0), .kon .i64 23)], []⟩
def sg_leaf25 : FSig := ⟨[.ptr 66 0 .env, .ptr 118 0 (.par 1)], .v (.agg cs_r08_result), (effM ++ effF ++ effE ++ effR), 2, [((1, 118, 0), .kon .i64 25)], []⟩
def sg_back25 : FSig := ⟨[.ptr 66 0 .env, .ptr 118 0 (.par 1), .v (.c (.int .i64)), .v (.c (.int .i64))], .v (.agg cs_r08_result), (effM ++ effF ++ effE ++ effR), 3, [((1, 118, 0), .kon .i64 25)], []⟩
def sg_top : FSig := ⟨[.ptr 118 0 (.par 0)], .ixe 19, [], 0, [((0, 118, 17), .val 0)], []⟩
def ft_top : List (Nat × FSig) := (156, sg_top) :: ft_probe
theorem call_top : Callable Tryz.prog 156 := callable_of Tryz.func156 (by kernel_rfl) (by kernel_rfl)
theorem hft_top (hev : EvG sh G) (hS : Safe kd prot G) (hclaim : TC Tryz.prog kd sh B G 146 sg_claim) (hprobe : TC Tryz.prog kd sh B G 108 sg_probe) (htop : TC Tryz.prog kd sh B G 156 sg_top) : ∀ f s, ftLook ft_top f = some s → Callable Tryz.prog f ∧ TC Tryz.prog kd sh B G f s := hft_cons call_top htop (hft_probe hev hS hclaim hprobe)
theorem chk_claimR : fnChk Tryz.prog kd evE (ftLook ft_enterWorker) prot Tryz.f146 sg_claimR = true := by kernel_rfl
theorem tc_claimR (hev : EvG sh G) (hS : Safe kd prot G) : TC Tryz.prog kd sh B G 146 sg_claimR := fn_sound Tryz.func146 chk_claimR (hft_enterWorker hev hS) hev hS mixed
theorem chk_leaf0 : fnChk Tryz.prog kd evE (ftLook ft_probe) prot Tryz.f67 sg_leaf0 = true := by kernel_rfl
theorem tc_leaf0 (hev : EvG sh G) (hS : Safe kd prot G) (hclaim : TC Tryz.prog kd sh B G 146 sg_claim) (hprobe : TC Tryz.prog kd sh B G 108 sg_probe) : TC Tryz.prog kd sh B G 67 sg_leaf0 := fn_sound Tryz.func67 chk_leaf0 (hft_probe hev hS hclaim hprobe) hev hS mixed
theorem chk_back0 : fnChk Tryz.prog kd evE (ftLook ft_probe) prot Tryz.f68 sg_back0 = true := by kernel_rfl
theorem tc_back0 (hev : EvG sh G) (hS : Safe kd prot G) (hclaim : TC Tryz.prog kd sh B G 146 sg_claim) (hprobe : TC Tryz.prog kd sh B G 108 sg_probe) : TC Tryz.prog kd sh B G 68 sg_back0 := fn_sound Tryz.func68 chk_back0 (hft_probe hev hS hclaim hprobe) hev hS mixed
theorem chk_leaf1 : fnChk Tryz.prog kd evE (ftLook ft_probe) prot Tryz.f67 sg_leaf1 = true := by kernel_rfl
theorem tc_leaf1 (hev : EvG sh G) (hS : Safe kd prot G) (hclaim : TC Tryz.prog kd sh B G 146 sg_claim) (hprobe : TC Tryz.prog kd sh B G 108 sg_probe) : TC Tryz.prog kd sh B G 67 sg_leaf1 := fn_sound Tryz.func67 chk_leaf1 (hft_probe hev hS hclaim hprobe) hev hS mixed
theorem chk_back1 : fnChk Tryz.prog kd evE (ftLook ft_probe) prot Tryz.f68 sg_back1 = true := by kernel_rfl
theorem tc_back1 (hev : EvG sh G) (hS : Safe kd prot G) (hclaim : TC Tryz.prog kd sh B G 146 sg_claim) (hprobe : TC Tryz.prog kd sh B G 108 sg_probe) : TC Tryz.prog kd sh B G 68 sg_back1 := fn_sound Tryz.func68 chk_back1 (hft_probe hev hS hclaim hprobe) hev hS mixed
theorem chk_leaf2 : fnChk Tryz.prog kd evE (ftLook ft_probe) prot Tryz.f67 sg_leaf2 = true := by kernel_rfl
theorem tc_leaf2 (hev : EvG sh G) (hS : Safe kd prot G) (hclaim : TC Tryz.prog kd sh B G 146 sg_claim) (hprobe : TC Tryz.prog kd sh B G 108 sg_probe) : TC Tryz.prog kd sh B G 67 sg_leaf2 := fn_sound Tryz.func67 chk_leaf2 (hft_probe hev hS hclaim hprobe) hev hS mixed
theorem chk_back2 : fnChk Tryz.prog kd evE (ftLook ft_probe) prot Tryz.f68 sg_back2 = true := by kernel_rfl
theorem tc_back2 (hev : EvG sh G) (hS : Safe kd prot G) (hclaim : TC Tryz.prog kd sh B G 146 sg_claim) (hprobe : TC Tryz.prog kd sh B G 108 sg_probe) : TC Tryz.prog kd sh B G 68 sg_back2 := fn_sound Tryz.func68 chk_back2 (hft_probe hev hS hclaim hprobe) hev hS mixed
theorem chk_leaf3 : fnChk Tryz.prog kd evE (ftLook ft_probe) prot Tryz.f67 sg_leaf3 = true := by kernel_rfl
theorem tc_leaf3 (hev : EvG sh G) (hS : Safe kd prot G) (hclaim : TC Tryz.prog kd sh B G 146 sg_claim) (hprobe : TC Tryz.prog kd sh B G 108 sg_probe) : TC Tryz.prog kd sh B G 67 sg_leaf3 := fn_sound Tryz.func67 chk_leaf3 (hft_probe hev hS hclaim hprobe) hev hS mixed
theorem chk_back3 : fnChk Tryz.prog kd evE (ftLook ft_probe) prot Tryz.f68 sg_back3 = true := by kernel_rfl
theorem tc_back3 (hev : EvG sh G) (hS : Safe kd prot G) (hclaim : TC Tryz.prog kd sh B G 146 sg_claim) (hprobe : TC Tryz.prog kd sh B G 108 sg_probe) : TC Tryz.prog kd sh B G 68 sg_back3 := fn_sound Tryz.func68 chk_back3 (hft_probe hev hS hclaim hprobe) hev hS mixed
theorem chk_leaf4 : fnChk Tryz.prog kd evE (ftLook ft_probe) prot Tryz.f67 sg_leaf4 = true := by kernel_rfl
theorem tc_leaf4 (hev : EvG sh G) (hS : Safe kd prot G) (hclaim : TC Tryz.prog kd sh B G 146 sg_claim) (hprobe : TC Tryz.prog kd sh B G 108 sg_probe) : TC Tryz.prog kd sh B G 67 sg_leaf4 := fn_sound Tryz.func67 chk_leaf4 (hft_probe hev hS hclaim hprobe) hev hS mixed
theorem chk_back4 : fnChk Tryz.prog kd evE (ftLook ft_probe) prot Tryz.f68 sg_back4 = true := by kernel_rfl
theorem tc_back4 (hev : EvG sh G) (hS : Safe kd prot G) (hclaim : TC Tryz.prog kd sh B G 146 sg_claim) (hprobe : TC Tryz.prog kd sh B G 108 sg_probe) : TC Tryz.prog kd sh B G 68 sg_back4 := fn_sound Tryz.func68 chk_back4 (hft_probe hev hS hclaim hprobe) hev hS mixed
theorem chk_leaf5 : fnChk Tryz.prog kd evE (ftLook ft_probe) prot Tryz.f67 sg_leaf5 = true := by kernel_rfl
theorem tc_leaf5 (hev : EvG sh G) (hS : Safe kd prot G) (hclaim : TC Tryz.prog kd sh B G 146 sg_claim) (hprobe : TC Tryz.prog kd sh B G 108 sg_probe) : TC Tryz.prog kd sh B G 67 sg_leaf5 := fn_sound Tryz.func67 chk_leaf5 (hft_probe hev hS hclaim hprobe) hev hS mixed
theorem chk_back5 : fnChk Tryz.prog kd evE (ftLook ft_probe) prot Tryz.f68 sg_back5 = true := by kernel_rfl
theorem tc_back5 (hev : EvG sh G) (hS : Safe kd prot G) (hclaim : TC Tryz.prog kd sh B G 146 sg_claim) (hprobe : TC Tryz.prog kd sh B G 108 sg_probe) : TC Tryz.prog kd sh B G 68 sg_back5 := fn_sound Tryz.func68 chk_back5 (hft_probe hev hS hclaim hprobe) hev hS mixed
theorem chk_leaf6 : fnChk Tryz.prog kd evE (ftLook ft_probe) prot Tryz.f67 sg_leaf6 = true := by kernel_rfl
theorem tc_leaf6 (hev : EvG sh G) (hS : Safe kd prot G) (hclaim : TC Tryz.prog kd sh B G 146 sg_claim) (hprobe : TC Tryz.prog kd sh B G 108 sg_probe) : TC Tryz.prog kd sh B G 67 sg_leaf6 := fn_sound Tryz.func67 chk_leaf6 (hft_probe hev hS hclaim hprobe) hev hS mixed
theorem chk_back6 : fnChk Tryz.prog kd evE (ftLook ft_probe) prot Tryz.f68 sg_back6 = true := by kernel_rfl
theorem tc_back6 (hev : EvG sh G) (hS : Safe kd prot G) (hclaim : TC Tryz.prog kd sh B G 146 sg_claim) (hprobe : TC Tryz.prog kd sh B G 108 sg_probe) : TC Tryz.prog kd sh B G 68 sg_back6 := fn_sound Tryz.func68 chk_back6 (hft_probe hev hS hclaim hprobe) hev hS mixed
theorem chk_leaf7 : fnChk Tryz.prog kd evE (ftLook ft_probe) prot Tryz.f67 sg_leaf7 = true := by kernel_rfl
theorem tc_leaf7 (hev : EvG sh G) (hS : Safe kd prot G) (hclaim : TC Tryz.prog kd sh B G 146 sg_claim) (hprobe : TC Tryz.prog kd sh B G 108 sg_probe) : TC Tryz.prog kd sh B G 67 sg_leaf7 := fn_sound Tryz.func67 chk_leaf7 (hft_probe hev hS hclaim hprobe) hev hS mixed
theorem chk_back7 : fnChk Tryz.prog kd evE (ftLook ft_probe) prot Tryz.f68 sg_back7 = true := by kernel_rfl
theorem tc_back7 (hev : EvG sh G) (hS : Safe kd prot G) (hclaim : TC Tryz.prog kd sh B G 146 sg_claim) (hprobe : TC Tryz.prog kd sh B G 108 sg_probe) : TC Tryz.prog kd sh B G 68 sg_back7 := fn_sound Tryz.func68 chk_back7 (hft_probe hev hS hclaim hprobe) hev hS mixed
theorem chk_leaf8 : fnChk Tryz.prog kd evE (ftLook ft_probe) prot Tryz.f67 sg_leaf8 = true := by kernel_rfl
theorem tc_leaf8 (hev : EvG sh G) (hS : Safe kd prot G) (hclaim : TC Tryz.prog kd sh B G 146 sg_claim) (hprobe : TC Tryz.prog kd sh B G 108 sg_probe) : TC Tryz.prog kd sh B G 67 sg_leaf8 := fn_sound Tryz.func67 chk_leaf8 (hft_probe hev hS hclaim hprobe) hev hS mixed
theorem chk_back8 : fnChk Tryz.prog kd evE (ftLook ft_probe) prot Tryz.f68 sg_back8 = true := by kernel_rfl
theorem tc_back8 (hev : EvG sh G) (hS : Safe kd prot G) (hclaim : TC Tryz.prog kd sh B G 146 sg_claim) (hprobe : TC Tryz.prog kd sh B G 108 sg_probe) : TC Tryz.prog kd sh B G 68 sg_back8 := fn_sound Tryz.func68 chk_back8 (hft_probe hev hS hclaim hprobe) hev hS mixed
theorem chk_leaf9 : fnChk Tryz.prog kd evE (ftLook ft_probe) prot Tryz.f67 sg_leaf9 = true := by kernel_rfl
theorem tc_leaf9 (hev : EvG sh G) (hS : Safe kd prot G) (hclaim : TC Tryz.prog kd sh B G 146 sg_claim) (hprobe : TC Tryz.prog kd sh B G 108 sg_probe) : TC Tryz.prog kd sh B G 67 sg_leaf9 := fn_sound Tryz.func67 chk_leaf9 (hft_probe hev hS hclaim hprobe) hev hS mixed
theorem chk_back9 : fnChk Tryz.prog kd evE (ftLook ft_probe) prot Tryz.f68 sg_back9 = true := by kernel_rfl
theorem tc_back9 (hev : EvG sh G) (hS : Safe kd prot G) (hclaim : TC Tryz.prog kd sh B G 146 sg_claim) (hprobe : TC Tryz.prog kd sh B G 108 sg_probe) : TC Tryz.prog kd sh B G 68 sg_back9 := fn_sound Tryz.func68 chk_back9 (hft_probe hev hS hclaim hprobe) hev hS mixed
theorem chk_leaf10 : fnChk Tryz.prog kd evE (ftLook ft_probe) prot Tryz.f67 sg_leaf10 = true := by kernel_rfl
theorem tc_leaf10 (hev : EvG sh G) (hS : Safe kd prot G) (hclaim : TC Tryz.prog kd sh B G 146 sg_claim) (hprobe : TC Tryz.prog kd sh B G 108 sg_probe) : TC Tryz.prog kd sh B G 67 sg_leaf10 := fn_sound Tryz.func67 chk_leaf10 (hft_probe hev hS hclaim hprobe) hev hS mixed
theorem chk_back10 : fnChk Tryz.prog kd evE (ftLook ft_probe) prot Tryz.f68 sg_back10 = true := by kernel_rfl
theorem tc_back10 (hev : EvG sh G) (hS : Safe kd prot G) (hclaim : TC Tryz.prog kd sh B G 146 sg_claim) (hprobe : TC Tryz.prog kd sh B G 108 sg_probe) : TC Tryz.prog kd sh B G 68 sg_back10 := fn_sound Tryz.func68 chk_back10 (hft_probe hev hS hclaim hprobe) hev hS mixed
theorem chk_leaf11 : fnChk Tryz.prog kd evE (ftLook ft_probe) prot Tryz.f67 sg_leaf11 = true := by kernel_rfl
theorem tc_leaf11 (hev : EvG sh G) (hS : Safe kd prot G) (hclaim : TC Tryz.prog kd sh B G 146 sg_claim) (hprobe : TC Tryz.prog kd sh B G 108 sg_probe) : TC Tryz.prog kd sh B G 67 sg_leaf11 := fn_sound Tryz.func67 chk_leaf11 (hft_probe hev hS hclaim hprobe) hev hS mixed
theorem chk_back11 : fnChk Tryz.prog kd evE (ftLook ft_probe) prot Tryz.f68 sg_back11 = true := by kernel_rfl
theorem tc_back11 (hev : EvG sh G) (hS : Safe kd prot G) (hclaim : TC Tryz.prog kd sh B G 146 sg_claim) (hprobe : TC Tryz.prog kd sh B G 108 sg_probe) : TC Tryz.prog kd sh B G 68 sg_back11 := fn_sound Tryz.func68 chk_back11 (hft_probe hev hS hclaim hprobe) hev hS mixed
theorem chk_leaf12 : fnChk Tryz.prog kd evE (ftLook ft_probe) prot Tryz.f67 sg_leaf12 = true := by kernel_rfl
theorem tc_leaf12 (hev : EvG sh G) (hS : Safe kd prot G) (hclaim : TC Tryz.prog kd sh B G 146 sg_claim) (hprobe : TC Tryz.prog kd sh B G 108 sg_probe) : TC Tryz.prog kd sh B G 67 sg_leaf12 := fn_sound Tryz.func67 chk_leaf12 (hft_probe hev hS hclaim hprobe) hev hS mixed
theorem chk_back12 : fnChk Tryz.prog kd evE (ftLook ft_probe) prot Tryz.f68 sg_back12 = true := by kernel_rfl
theorem tc_back12 (hev : EvG sh G) (hS : Safe kd prot G) (hclaim : TC Tryz.prog kd sh B G 146 sg_claim) (hprobe : TC Tryz.prog kd sh B G 108 sg_probe) : TC Tryz.prog kd sh B G 68 sg_back12 := fn_sound Tryz.func68 chk_back12 (hft_probe hev hS hclaim hprobe) hev hS mixed
theorem chk_leaf13 : fnChk Tryz.prog kd evE (ftLook ft_probe) prot Tryz.f67 sg_leaf13 = true := by kernel_rfl
theorem tc_leaf13 (hev : EvG sh G) (hS : Safe kd prot G) (hclaim : TC Tryz.prog kd sh B G 146 sg_claim) (hprobe : TC Tryz.prog kd sh B G 108 sg_probe) : TC Tryz.prog kd sh B G 67 sg_leaf13 := fn_sound Tryz.func67 chk_leaf13 (hft_probe hev hS hclaim hprobe) hev hS mixed
theorem chk_back13 : fnChk Tryz.prog kd evE (ftLook ft_probe) prot Tryz.f68 sg_back13 = true := by kernel_rfl
theorem tc_back13 (hev : EvG sh G) (hS : Safe kd prot G) (hclaim : TC Tryz.prog kd sh B G 146 sg_claim) (hprobe : TC Tryz.prog kd sh B G 108 sg_probe) : TC Tryz.prog kd sh B G 68 sg_back13 := fn_sound Tryz.func68 chk_back13 (hft_probe hev hS hclaim hprobe) hev hS mixed
theorem chk_leaf14 : fnChk Tryz.prog kd evE (ftLook ft_probe) prot Tryz.f67 sg_leaf14 = true := by kernel_rfl
theorem tc_leaf14 (hev : EvG sh G) (hS : Safe kd prot G) (hclaim : TC Tryz.prog kd sh B G 146 sg_claim) (hprobe : TC Tryz.prog kd sh B G 108 sg_probe) : TC Tryz.prog kd sh B G 67 sg_leaf14 := fn_sound Tryz.func67 chk_leaf14 (hft_probe hev hS hclaim hprobe) hev hS mixed
theorem chk_back14 : fnChk Tryz.prog kd evE (ftLook ft_probe) prot Tryz.f68 sg_back14 = true := by kernel_rfl
theorem tc_back14 (hev : EvG sh G) (hS : Safe kd prot G) (hclaim : TC Tryz.prog kd sh B G 146 sg_claim) (hprobe : TC Tryz.prog kd sh B G 108 sg_probe) : TC Tryz.prog kd sh B G 68 sg_back14 := fn_sound Tryz.func68 chk_back14 (hft_probe hev hS hclaim hprobe) hev hS mixed
theorem chk_leaf15 : fnChk Tryz.prog kd evE (ftLook ft_probe) prot Tryz.f67 sg_leaf15 = true := by kernel_rfl
theorem tc_leaf15 (hev : EvG sh G) (hS : Safe kd prot G) (hclaim : TC Tryz.prog kd sh B G 146 sg_claim) (hprobe : TC Tryz.prog kd sh B G 108 sg_probe) : TC Tryz.prog kd sh B G 67 sg_leaf15 := fn_sound Tryz.func67 chk_leaf15 (hft_probe hev hS hclaim hprobe) hev hS mixed
theorem chk_back15 : fnChk Tryz.prog kd evE (ftLook ft_probe) prot Tryz.f68 sg_back15 = true := by kernel_rfl
theorem tc_back15 (hev : EvG sh G) (hS : Safe kd prot G) (hclaim : TC Tryz.prog kd sh B G 146 sg_claim) (hprobe : TC Tryz.prog kd sh B G 108 sg_probe) : TC Tryz.prog kd sh B G 68 sg_back15 := fn_sound Tryz.func68 chk_back15 (hft_probe hev hS hclaim hprobe) hev hS mixed
theorem chk_leaf16 : fnChk Tryz.prog kd evE (ftLook ft_probe) prot Tryz.f67 sg_leaf16 = true := by kernel_rfl
theorem tc_leaf16 (hev : EvG sh G) (hS : Safe kd prot G) (hclaim : TC Tryz.prog kd sh B G 146 sg_claim) (hprobe : TC Tryz.prog kd sh B G 108 sg_probe) : TC Tryz.prog kd sh B G 67 sg_leaf16 := fn_sound Tryz.func67 chk_leaf16 (hft_probe hev hS hclaim hprobe) hev hS mixed
theorem chk_back16 : fnChk Tryz.prog kd evE (ftLook ft_probe) prot Tryz.f68 sg_back16 = true := by kernel_rfl
theorem tc_back16 (hev : EvG sh G) (hS : Safe kd prot G) (hclaim : TC Tryz.prog kd sh B G 146 sg_claim) (hprobe : TC Tryz.prog kd sh B G 108 sg_probe) : TC Tryz.prog kd sh B G 68 sg_back16 := fn_sound Tryz.func68 chk_back16 (hft_probe hev hS hclaim hprobe) hev hS mixed
theorem chk_leaf17 : fnChk Tryz.prog kd evE (ftLook ft_probe) prot Tryz.f67 sg_leaf17 = true := by kernel_rfl
theorem tc_leaf17 (hev : EvG sh G) (hS : Safe kd prot G) (hclaim : TC Tryz.prog kd sh B G 146 sg_claim) (hprobe : TC Tryz.prog kd sh B G 108 sg_probe) : TC Tryz.prog kd sh B G 67 sg_leaf17 := fn_sound Tryz.func67 chk_leaf17 (hft_probe hev hS hclaim hprobe) hev hS mixed
theorem chk_back17 : fnChk Tryz.prog kd evE (ftLook ft_probe) prot Tryz.f68 sg_back17 = true := by kernel_rfl
theorem tc_back17 (hev : EvG sh G) (hS : Safe kd prot G) (hclaim : TC Tryz.prog kd sh B G 146 sg_claim) (hprobe : TC Tryz.prog kd sh B G 108 sg_probe) : TC Tryz.prog kd sh B G 68 sg_back17 := fn_sound Tryz.func68 chk_back17 (hft_probe hev hS hclaim hprobe) hev hS mixed
theorem chk_leaf18 : fnChk Tryz.prog kd evE (ftLook ft_probe) prot Tryz.f67 sg_leaf18 = true := by kernel_rfl
theorem tc_leaf18 (hev : EvG sh G) (hS : Safe kd prot G) (hclaim : TC Tryz.prog kd sh B G 146 sg_claim) (hprobe : TC Tryz.prog kd sh B G 108 sg_probe) : TC Tryz.prog kd sh B G 67 sg_leaf18 := fn_sound Tryz.func67 chk_leaf18 (hft_probe hev hS hclaim hprobe) hev hS mixed
theorem chk_back18 : fnChk Tryz.prog kd evE (ftLook ft_probe) prot Tryz.f68 sg_back18 = true := by kernel_rfl
theorem tc_back18 (hev : EvG sh G) (hS : Safe kd prot G) (hclaim : TC Tryz.prog kd sh B G 146 sg_claim) (hprobe : TC Tryz.prog kd sh B G 108 sg_probe) : TC Tryz.prog kd sh B G 68 sg_back18 := fn_sound Tryz.func68 chk_back18 (hft_probe hev hS hclaim hprobe) hev hS mixed
theorem chk_leaf19 : fnChk Tryz.prog kd evE (ftLook ft_probe) prot Tryz.f67 sg_leaf19 = true := by kernel_rfl
theorem tc_leaf19 (hev : EvG sh G) (hS : Safe kd prot G) (hclaim : TC Tryz.prog kd sh B G 146 sg_claim) (hprobe : TC Tryz.prog kd sh B G 108 sg_probe) : TC Tryz.prog kd sh B G 67 sg_leaf19 := fn_sound Tryz.func67 chk_leaf19 (hft_probe hev hS hclaim hprobe) hev hS mixed
theorem chk_back19 : fnChk Tryz.prog kd evE (ftLook ft_probe) prot Tryz.f68 sg_back19 = true := by kernel_rfl
theorem tc_back19 (hev : EvG sh G) (hS : Safe kd prot G) (hclaim : TC Tryz.prog kd sh B G 146 sg_claim) (hprobe : TC Tryz.prog kd sh B G 108 sg_probe) : TC Tryz.prog kd sh B G 68 sg_back19 := fn_sound Tryz.func68 chk_back19 (hft_probe hev hS hclaim hprobe) hev hS mixed
theorem chk_leaf20 : fnChk Tryz.prog kd evE (ftLook ft_probe) prot Tryz.f67 sg_leaf20 = true := by kernel_rfl
theorem tc_leaf20 (hev : EvG sh G) (hS : Safe kd prot G) (hclaim : TC Tryz.prog kd sh B G 146 sg_claim) (hprobe : TC Tryz.prog kd sh B G 108 sg_probe) : TC Tryz.prog kd sh B G 67 sg_leaf20 := fn_sound Tryz.func67 chk_leaf20 (hft_probe hev hS hclaim hprobe) hev hS mixed
theorem chk_back20 : fnChk Tryz.prog kd evE (ftLook ft_probe) prot Tryz.f68 sg_back20 = true := by kernel_rfl
theorem tc_back20 (hev : EvG sh G) (hS : Safe kd prot G) (hclaim : TC Tryz.prog kd sh B G 146 sg_claim) (hprobe : TC Tryz.prog kd sh B G 108 sg_probe) : TC Tryz.prog kd sh B G 68 sg_back20 := fn_sound Tryz.func68 chk_back20 (hft_probe hev hS hclaim hprobe) hev hS mixed
theorem chk_leaf21 : fnChk Tryz.prog kd evE (ftLook ft_probe) prot Tryz.f67 sg_leaf21 = true := by kernel_rfl
theorem tc_leaf21 (hev : EvG sh G) (hS : Safe kd prot G) (hclaim : TC Tryz.prog kd sh B G 146 sg_claim) (hprobe : TC Tryz.prog kd sh B G 108 sg_probe) : TC Tryz.prog kd sh B G 67 sg_leaf21 := fn_sound Tryz.func67 chk_leaf21 (hft_probe hev hS hclaim hprobe) hev hS mixed
theorem chk_back21 : fnChk Tryz.prog kd evE (ftLook ft_probe) prot Tryz.f68 sg_back21 = true := by kernel_rfl
theorem tc_back21 (hev : EvG sh G) (hS : Safe kd prot G) (hclaim : TC Tryz.prog kd sh B G 146 sg_claim) (hprobe : TC Tryz.prog kd sh B G 108 sg_probe) : TC Tryz.prog kd sh B G 68 sg_back21 := fn_sound Tryz.func68 chk_back21 (hft_probe hev hS hclaim hprobe) hev hS mixed
theorem chk_leaf22 : fnChk Tryz.prog kd evE (ftLook ft_probe) prot Tryz.f67 sg_leaf22 = true := by kernel_rfl
theorem tc_leaf22 (hev : EvG sh G) (hS : Safe kd prot G) (hclaim : TC Tryz.prog kd sh B G 146 sg_claim) (hprobe : TC Tryz.prog kd sh B G 108 sg_probe) : TC Tryz.prog kd sh B G 67 sg_leaf22 := fn_sound Tryz.func67 chk_leaf22 (hft_probe hev hS hclaim hprobe) hev hS mixed
theorem chk_back22 : fnChk Tryz.prog kd evE (ftLook ft_probe) prot Tryz.f68 sg_back22 = true := by kernel_rfl
theorem tc_back22 (hev : EvG sh G) (hS : Safe kd prot G) (hclaim : TC Tryz.prog kd sh B G 146 sg_claim) (hprobe : TC Tryz.prog kd sh B G 108 sg_probe) : TC Tryz.prog kd sh B G 68 sg_back22 := fn_sound Tryz.func68 chk_back22 (hft_probe hev hS hclaim hprobe) hev hS mixed
theorem chk_leaf23 : fnChk Tryz.prog kd evE (ftLook ft_probe) prot Tryz.f67 sg_leaf23 = true := by kernel_rfl
theorem tc_leaf23 (hev : EvG sh G) (hS : Safe kd prot G) (hclaim : TC Tryz.prog kd sh B G 146 sg_claim) (hprobe : TC Tryz.prog kd sh B G 108 sg_probe) : TC Tryz.prog kd sh B G 67 sg_leaf23 := fn_sound Tryz.func67 chk_leaf23 (hft_probe hev hS hclaim hprobe) hev hS mixed
theorem chk_back23 : fnChk Tryz.prog kd evE (ftLook ft_probe) prot Tryz.f68 sg_back23 = true := by kernel_rfl
theorem tc_back23 (hev : EvG sh G) (hS : Safe kd prot G) (hclaim : TC Tryz.prog kd sh B G 146 sg_claim) (hprobe : TC Tryz.prog kd sh B G 108 sg_probe) : TC Tryz.prog kd sh B G 68 sg_back23 := fn_sound Tryz.func68 chk_back23 (hft_probe hev hS hclaim hprobe) hev hS mixed
theorem chk_leaf25 : fnChk Tryz.prog kd evE (ftLook ft_probe) prot Tryz.f67 sg_leaf25 = true := by kernel_rfl
theorem tc_leaf25 (hev : EvG sh G) (hS : Safe kd prot G) (hclaim : TC Tryz.prog kd sh B G 146 sg_claim) (hprobe : TC Tryz.prog kd sh B G 108 sg_probe) : TC Tryz.prog kd sh B G 67 sg_leaf25 := fn_sound Tryz.func67 chk_leaf25 (hft_probe hev hS hclaim hprobe) hev hS mixed
theorem chk_back25 : fnChk Tryz.prog kd evE (ftLook ft_probe) prot Tryz.f68 sg_back25 = true := by kernel_rfl
theorem tc_back25 (hev : EvG sh G) (hS : Safe kd prot G) (hclaim : TC Tryz.prog kd sh B G 146 sg_claim) (hprobe : TC Tryz.prog kd sh B G 108 sg_probe) : TC Tryz.prog kd sh B G 68 sg_back25 := fn_sound Tryz.func68 chk_back25 (hft_probe hev hS hclaim hprobe) hev hS mixed
end Go.Proofs.YtncnepmgmphanaaGreatDoor
