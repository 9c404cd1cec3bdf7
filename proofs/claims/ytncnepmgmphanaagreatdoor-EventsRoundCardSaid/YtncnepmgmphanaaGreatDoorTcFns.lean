/- The contracts by types of the reference engine (printed by gen_tc.py). No condition beside those named. -/
import Derived.Test.YtncnepmgmphanaaGreatDoorMg07
set_option linter.unusedVariables false
set_option linter.unusedSimpArgs false
set_option linter.unusedSectionVars false
namespace Go.Proofs.YtncnepmgmphanaaGreatDoor
variable {sh : Sh} {B : Nat} {G : World → Prop}
theorem call_index : Callable Tryz.prog 131 := callable_of Tryz.func131 (by kernel_rfl) (by kernel_rfl)
theorem chk_index : fnChk Tryz.prog kd evE (ftLook ([] : List (Nat × FSig))) prot Tryz.f131 sg_index = true := by kernel_rfl
theorem tc_index (hev : EvG sh G) (hS : Safe kd prot G) : TC Tryz.prog kd sh B G 131 sg_index := fn_sound Tryz.func131 chk_index hft_nil hev hS mixed
theorem hft_index (hev : EvG sh G) (hS : Safe kd prot G) : ∀ f s, ftLook ft_index f = some s → Callable Tryz.prog f ∧ TC Tryz.prog kd sh B G f s := hft_cons call_index (tc_index hev hS) hft_nil
theorem call_deques : Callable Tryz.prog 82 := callable_of Tryz.func82 (by kernel_rfl) (by kernel_rfl)
theorem chk_deques : fnChk Tryz.prog kd evE (ftLook ft_index) prot Tryz.f82 sg_deques = true := by kernel_rfl
theorem tc_deques (hev : EvG sh G) (hS : Safe kd prot G) : TC Tryz.prog kd sh B G 82 sg_deques := fn_sound Tryz.func82 chk_deques (hft_index hev hS) hev hS mixed
theorem hft_deques (hev : EvG sh G) (hS : Safe kd prot G) : ∀ f s, ftLook ft_deques f = some s → Callable Tryz.prog f ∧ TC Tryz.prog kd sh B G f s := hft_cons call_deques (tc_deques hev hS) (hft_index hev hS)
theorem call_Cells : Callable Tryz.prog 64 := callable_of Tryz.func64 (by kernel_rfl) (by kernel_rfl)
theorem chk_Cells : fnChk Tryz.prog kd evE (ftLook ft_deques) prot Tryz.f64 sg_Cells = true := by kernel_rfl
theorem tc_Cells (hev : EvG sh G) (hS : Safe kd prot G) : TC Tryz.prog kd sh B G 64 sg_Cells := fn_sound Tryz.func64 chk_Cells (hft_deques hev hS) hev hS mixed
theorem hft_Cells (hev : EvG sh G) (hS : Safe kd prot G) : ∀ f s, ftLook ft_Cells f = some s → Callable Tryz.prog f ∧ TC Tryz.prog kd sh B G f s := hft_cons call_Cells (tc_Cells hev hS) (hft_deques hev hS)
theorem call_Queue : Callable Tryz.prog 83 := callable_of Tryz.func83 (by kernel_rfl) (by kernel_rfl)
theorem chk_Queue : fnChk Tryz.prog kd evE (ftLook ft_Cells) prot Tryz.f83 sg_Queue = true := by kernel_rfl
theorem tc_Queue (hev : EvG sh G) (hS : Safe kd prot G) : TC Tryz.prog kd sh B G 83 sg_Queue := fn_sound Tryz.func83 chk_Queue (hft_Cells hev hS) hev hS mixed
theorem hft_Queue (hev : EvG sh G) (hS : Safe kd prot G) : ∀ f s, ftLook ft_Queue f = some s → Callable Tryz.prog f ∧ TC Tryz.prog kd sh B G f s := hft_cons call_Queue (tc_Queue hev hS) (hft_Cells hev hS)
theorem call_task : Callable Tryz.prog 171 := callable_of Tryz.func171 (by kernel_rfl) (by kernel_rfl)
theorem chk_task : fnChk Tryz.prog kd evE (ftLook ft_Queue) prot Tryz.f171 sg_task = true := by kernel_rfl
theorem tc_task (hev : EvG sh G) (hS : Safe kd prot G) : TC Tryz.prog kd sh B G 171 sg_task := fn_sound Tryz.func171 chk_task (hft_Queue hev hS) hev hS mixed
theorem hft_task (hev : EvG sh G) (hS : Safe kd prot G) : ∀ f s, ftLook ft_task f = some s → Callable Tryz.prog f ∧ TC Tryz.prog kd sh B G f s := hft_cons call_task (tc_task hev hS) (hft_Queue hev hS)
theorem call_Slot : Callable Tryz.prog 142 := callable_of Tryz.func142 (by kernel_rfl) (by kernel_rfl)
theorem chk_Slot : fnChk Tryz.prog kd evE (ftLook ft_task) prot Tryz.f142 sg_Slot = true := by kernel_rfl
theorem tc_Slot (hev : EvG sh G) (hS : Safe kd prot G) : TC Tryz.prog kd sh B G 142 sg_Slot := fn_sound Tryz.func142 chk_Slot (hft_task hev hS) hev hS mixed
theorem hft_Slot (hev : EvG sh G) (hS : Safe kd prot G) : ∀ f s, ftLook ft_Slot f = some s → Callable Tryz.prog f ∧ TC Tryz.prog kd sh B G f s := hft_cons call_Slot (tc_Slot hev hS) (hft_task hev hS)
theorem call_Sleepers : Callable Tryz.prog 152 := callable_of Tryz.func152 (by kernel_rfl) (by kernel_rfl)
theorem chk_Sleepers : fnChk Tryz.prog kd evE (ftLook ft_Slot) prot Tryz.f152 sg_Sleepers = true := by kernel_rfl
theorem tc_Sleepers (hev : EvG sh G) (hS : Safe kd prot G) : TC Tryz.prog kd sh B G 152 sg_Sleepers := fn_sound Tryz.func152 chk_Sleepers (hft_Slot hev hS) hev hS mixed
theorem hft_Sleepers (hev : EvG sh G) (hS : Safe kd prot G) : ∀ f s, ftLook ft_Sleepers f = some s → Callable Tryz.prog f ∧ TC Tryz.prog kd sh B G f s := hft_cons call_Sleepers (tc_Sleepers hev hS) (hft_Slot hev hS)
theorem call_Epoch : Callable Tryz.prog 153 := callable_of Tryz.func153 (by kernel_rfl) (by kernel_rfl)
theorem chk_Epoch : fnChk Tryz.prog kd evE (ftLook ft_Sleepers) prot Tryz.f153 sg_Epoch = true := by kernel_rfl
theorem tc_Epoch (hev : EvG sh G) (hS : Safe kd prot G) : TC Tryz.prog kd sh B G 153 sg_Epoch := fn_sound Tryz.func153 chk_Epoch (hft_Sleepers hev hS) hev hS mixed
theorem hft_Epoch (hev : EvG sh G) (hS : Safe kd prot G) : ∀ f s, ftLook ft_Epoch f = some s → Callable Tryz.prog f ∧ TC Tryz.prog kd sh B G f s := hft_cons call_Epoch (tc_Epoch hev hS) (hft_Sleepers hev hS)
theorem call_Bitmap : Callable Tryz.prog 84 := callable_of Tryz.func84 (by kernel_rfl) (by kernel_rfl)
theorem chk_Bitmap : fnChk Tryz.prog kd evE (ftLook ft_Epoch) prot Tryz.f84 sg_Bitmap = true := by kernel_rfl
theorem tc_Bitmap (hev : EvG sh G) (hS : Safe kd prot G) : TC Tryz.prog kd sh B G 84 sg_Bitmap := fn_sound Tryz.func84 chk_Bitmap (hft_Epoch hev hS) hev hS mixed
theorem hft_Bitmap (hev : EvG sh G) (hS : Safe kd prot G) : ∀ f s, ftLook ft_Bitmap f = some s → Callable Tryz.prog f ∧ TC Tryz.prog kd sh B G f s := hft_cons call_Bitmap (tc_Bitmap hev hS) (hft_Epoch hev hS)
theorem call_State : Callable Tryz.prog 150 := callable_of Tryz.func150 (by kernel_rfl) (by kernel_rfl)
theorem chk_State : fnChk Tryz.prog kd evE (ftLook ft_Bitmap) prot Tryz.f150 sg_State = true := by kernel_rfl
theorem tc_State (hev : EvG sh G) (hS : Safe kd prot G) : TC Tryz.prog kd sh B G 150 sg_State := fn_sound Tryz.func150 chk_State (hft_Bitmap hev hS) hev hS mixed
theorem hft_State (hev : EvG sh G) (hS : Safe kd prot G) : ∀ f s, ftLook ft_State f = some s → Callable Tryz.prog f ∧ TC Tryz.prog kd sh B G f s := hft_cons call_State (tc_State hev hS) (hft_Bitmap hev hS)
theorem call_Level : Callable Tryz.prog 148 := callable_of Tryz.func148 (by kernel_rfl) (by kernel_rfl)
theorem chk_Level : fnChk Tryz.prog kd evE (ftLook ft_State) prot Tryz.f148 sg_Level = true := by kernel_rfl
theorem tc_Level (hev : EvG sh G) (hS : Safe kd prot G) : TC Tryz.prog kd sh B G 148 sg_Level := fn_sound Tryz.func148 chk_Level (hft_State hev hS) hev hS mixed
theorem hft_Level (hev : EvG sh G) (hS : Safe kd prot G) : ∀ f s, ftLook ft_Level f = some s → Callable Tryz.prog f ∧ TC Tryz.prog kd sh B G f s := hft_cons call_Level (tc_Level hev hS) (hft_State hev hS)
theorem call_Join : Callable Tryz.prog 158 := callable_of Tryz.func158 (by kernel_rfl) (by kernel_rfl)
theorem chk_Join : fnChk Tryz.prog kd evE (ftLook ft_Level) prot Tryz.f158 sg_Join = true := by kernel_rfl
theorem tc_Join (hev : EvG sh G) (hS : Safe kd prot G) : TC Tryz.prog kd sh B G 158 sg_Join := fn_sound Tryz.func158 chk_Join (hft_Level hev hS) hev hS mixed
theorem hft_Join (hev : EvG sh G) (hS : Safe kd prot G) : ∀ f s, ftLook ft_Join f = some s → Callable Tryz.prog f ∧ TC Tryz.prog kd sh B G f s := hft_cons call_Join (tc_Join hev hS) (hft_Level hev hS)
theorem call_Waits : Callable Tryz.prog 151 := callable_of Tryz.func151 (by kernel_rfl) (by kernel_rfl)
theorem chk_Waits : fnChk Tryz.prog kd evE (ftLook ft_Join) prot Tryz.f151 sg_Waits = true := by kernel_rfl
theorem tc_Waits (hev : EvG sh G) (hS : Safe kd prot G) : TC Tryz.prog kd sh B G 151 sg_Waits := fn_sound Tryz.func151 chk_Waits (hft_Join hev hS) hev hS mixed
theorem hft_Waits (hev : EvG sh G) (hS : Safe kd prot G) : ∀ f s, ftLook ft_Waits f = some s → Callable Tryz.prog f ∧ TC Tryz.prog kd sh B G f s := hft_cons call_Waits (tc_Waits hev hS) (hft_Join hev hS)
theorem call_Since : Callable Tryz.prog 149 := callable_of Tryz.func149 (by kernel_rfl) (by kernel_rfl)
theorem chk_Since : fnChk Tryz.prog kd evE (ftLook ft_Waits) prot Tryz.f149 sg_Since = true := by kernel_rfl
theorem tc_Since (hev : EvG sh G) (hS : Safe kd prot G) : TC Tryz.prog kd sh B G 149 sg_Since := fn_sound Tryz.func149 chk_Since (hft_Waits hev hS) hev hS mixed
theorem hft_Since (hev : EvG sh G) (hS : Safe kd prot G) : ∀ f s, ftLook ft_Since f = some s → Callable Tryz.prog f ∧ TC Tryz.prog kd sh B G f s := hft_cons call_Since (tc_Since hev hS) (hft_Waits hev hS)
theorem hft_power (hev : EvG sh G) (hS : Safe kd prot G) : ∀ f s, ftLook ft_power f = some s → Callable Tryz.prog f ∧ TC Tryz.prog kd sh B G f s := hft_cons call_power tc_power (hft_Since hev hS)
theorem call_Mask : Callable Tryz.prog 94 := callable_of Tryz.func94 (by kernel_rfl) (by kernel_rfl)
theorem chk_Mask : fnChk Tryz.prog kd evE (ftLook ft_power) prot Tryz.f94 sg_Mask = true := by kernel_rfl
theorem tc_Mask (hev : EvG sh G) (hS : Safe kd prot G) : TC Tryz.prog kd sh B G 94 sg_Mask := fn_sound Tryz.func94 chk_Mask (hft_power hev hS) hev hS mixed
theorem hft_Mask (hev : EvG sh G) (hS : Safe kd prot G) : ∀ f s, ftLook ft_Mask f = some s → Callable Tryz.prog f ∧ TC Tryz.prog kd sh B G f s := hft_cons call_Mask (tc_Mask hev hS) (hft_power hev hS)
theorem call_Bit : Callable Tryz.prog 139 := callable_of Tryz.func139 (by kernel_rfl) (by kernel_rfl)
theorem hft_Bit (hev : EvG sh G) (hS : Safe kd prot G) : ∀ f s, ftLook ft_Bit f = some s → Callable Tryz.prog f ∧ TC Tryz.prog kd sh B G f s := hft_cons call_Bit tc_Bit (hft_Mask hev hS)
theorem call_High : Callable Tryz.prog 98 := callable_of Tryz.func98 (by kernel_rfl) (by kernel_rfl)
theorem hft_High (hev : EvG sh G) (hS : Safe kd prot G) : ∀ f s, ftLook ft_High f = some s → Callable Tryz.prog f ∧ TC Tryz.prog kd sh B G f s := hft_cons call_High tc_High (hft_Bit hev hS)
theorem call_Nth : Callable Tryz.prog 172 := callable_of Tryz.func172 (by kernel_rfl) (by kernel_rfl)
theorem hft_Nth (hev : EvG sh G) (hS : Safe kd prot G) : ∀ f s, ftLook ft_Nth f = some s → Callable Tryz.prog f ∧ TC Tryz.prog kd sh B G f s := hft_cons call_Nth tc_Nth (hft_High hev hS)
theorem call_Low : Callable Tryz.prog 155 := callable_of Tryz.func155 (by kernel_rfl) (by kernel_rfl)
theorem chk_Low : fnChk Tryz.prog kd evE (ftLook ft_Nth) prot Tryz.f155 sg_Low = true := by kernel_rfl
theorem tc_Low (hev : EvG sh G) (hS : Safe kd prot G) : TC Tryz.prog kd sh B G 155 sg_Low := fn_sound Tryz.func155 chk_Low (hft_Nth hev hS) hev hS mixed
theorem hft_Low (hev : EvG sh G) (hS : Safe kd prot G) : ∀ f s, ftLook ft_Low f = some s → Callable Tryz.prog f ∧ TC Tryz.prog kd sh B G f s := hft_cons call_Low (tc_Low hev hS) (hft_Nth hev hS)
theorem call_Class : Callable Tryz.prog 154 := callable_of Tryz.func154 (by kernel_rfl) (by kernel_rfl)
theorem hft_Class (hev : EvG sh G) (hS : Safe kd prot G) : ∀ f s, ftLook ft_Class f = some s → Callable Tryz.prog f ∧ TC Tryz.prog kd sh B G f s := hft_cons call_Class (tc_Class hev hS) (hft_Low hev hS)
theorem call_Pack : Callable Tryz.prog 140 := callable_of Tryz.func140 (by kernel_rfl) (by kernel_rfl)
theorem chk_Pack : fnChk Tryz.prog kd evE (ftLook ft_Class) prot Tryz.f140 sg_Pack = true := by kernel_rfl
theorem tc_Pack (hev : EvG sh G) (hS : Safe kd prot G) : TC Tryz.prog kd sh B G 140 sg_Pack := fn_sound Tryz.func140 chk_Pack (hft_Class hev hS) hev hS mixed
theorem hft_Pack (hev : EvG sh G) (hS : Safe kd prot G) : ∀ f s, ftLook ft_Pack f = some s → Callable Tryz.prog f ∧ TC Tryz.prog kd sh B G f s := hft_cons call_Pack (tc_Pack hev hS) (hft_Class hev hS)
theorem call_Unpack : Callable Tryz.prog 143 := callable_of Tryz.func143 (by kernel_rfl) (by kernel_rfl)
theorem hft_Unpack (hev : EvG sh G) (hS : Safe kd prot G) : ∀ f s, ftLook ft_Unpack f = some s → Callable Tryz.prog f ∧ TC Tryz.prog kd sh B G f s := hft_cons call_Unpack (tc_Unpack hev hS) (hft_Pack hev hS)
theorem call_Draw : Callable Tryz.prog 26 := callable_of Tryz.func26 (by kernel_rfl) (by kernel_rfl)
theorem hft_Draw (hev : EvG sh G) (hS : Safe kd prot G) : ∀ f s, ftLook ft_Draw f = some s → Callable Tryz.prog f ∧ TC Tryz.prog kd sh B G f s := hft_cons call_Draw tc_Draw (hft_Unpack hev hS)
theorem call_In : Callable Tryz.prog 170 := callable_of Tryz.func170 (by kernel_rfl) (by kernel_rfl)
theorem chk_In : fnChk Tryz.prog kd evE (ftLook ft_Draw) prot Tryz.f170 sg_In = true := by kernel_rfl
theorem tc_In (hev : EvG sh G) (hS : Safe kd prot G) : TC Tryz.prog kd sh B G 170 sg_In := fn_sound Tryz.func170 chk_In (hft_Draw hev hS) hev hS mixed
theorem hft_In (hev : EvG sh G) (hS : Safe kd prot G) : ∀ f s, ftLook ft_In f = some s → Callable Tryz.prog f ∧ TC Tryz.prog kd sh B G f s := hft_cons call_In (tc_In hev hS) (hft_Draw hev hS)
theorem call_Access : Callable Tryz.prog 136 := callable_of Tryz.func136 (by kernel_rfl) (by kernel_rfl)
theorem hft_Access (hev : EvG sh G) (hS : Safe kd prot G) : ∀ f s, ftLook ft_Access f = some s → Callable Tryz.prog f ∧ TC Tryz.prog kd sh B G f s := hft_cons call_Access (tc_Access hev hS) (hft_In hev hS)
theorem call_load : Callable Tryz.prog 97 := callable_of Tryz.func97 (by kernel_rfl) (by kernel_rfl)
theorem chk_load : fnChk Tryz.prog kd evE (ftLook ft_Access) prot Tryz.f97 sg_load = true := by kernel_rfl
theorem tc_load (hev : EvG sh G) (hS : Safe kd prot G) : TC Tryz.prog kd sh B G 97 sg_load := fn_sound Tryz.func97 chk_load (hft_Access hev hS) hev hS mixed
theorem hft_load (hev : EvG sh G) (hS : Safe kd prot G) : ∀ f s, ftLook ft_load f = some s → Callable Tryz.prog f ∧ TC Tryz.prog kd sh B G f s := hft_cons call_load (tc_load hev hS) (hft_Access hev hS)
theorem call_store : Callable Tryz.prog 100 := callable_of Tryz.func100 (by kernel_rfl) (by kernel_rfl)
theorem chk_store : fnChk Tryz.prog kd evE (ftLook ft_load) prot Tryz.f100 sg_store = true := by kernel_rfl
theorem tc_store (hev : EvG sh G) (hS : Safe kd prot G) : TC Tryz.prog kd sh B G 100 sg_store := fn_sound Tryz.func100 chk_store (hft_load hev hS) hev hS mixed
theorem hft_store (hev : EvG sh G) (hS : Safe kd prot G) : ∀ f s, ftLook ft_store f = some s → Callable Tryz.prog f ∧ TC Tryz.prog kd sh B G f s := hft_cons call_store (tc_store hev hS) (hft_load hev hS)
theorem call_cas : Callable Tryz.prog 99 := callable_of Tryz.func99 (by kernel_rfl) (by kernel_rfl)
theorem chk_cas : fnChk Tryz.prog kd evE (ftLook ft_store) prot Tryz.f99 sg_cas = true := by kernel_rfl
theorem tc_cas (hev : EvG sh G) (hS : Safe kd prot G) : TC Tryz.prog kd sh B G 99 sg_cas := fn_sound Tryz.func99 chk_cas (hft_store hev hS) hev hS mixed
theorem hft_cas (hev : EvG sh G) (hS : Safe kd prot G) : ∀ f s, ftLook ft_cas f = some s → Callable Tryz.prog f ∧ TC Tryz.prog kd sh B G f s := hft_cons call_cas (tc_cas hev hS) (hft_store hev hS)
theorem call_or : Callable Tryz.prog 93 := callable_of Tryz.func93 (by kernel_rfl) (by kernel_rfl)
theorem chk_or : fnChk Tryz.prog kd evE (ftLook ft_cas) prot Tryz.f93 sg_or = true := by kernel_rfl
theorem tc_or (hev : EvG sh G) (hS : Safe kd prot G) : TC Tryz.prog kd sh B G 93 sg_or := fn_sound Tryz.func93 chk_or (hft_cas hev hS) hev hS mixed
theorem hft_or (hev : EvG sh G) (hS : Safe kd prot G) : ∀ f s, ftLook ft_or f = some s → Callable Tryz.prog f ∧ TC Tryz.prog kd sh B G f s := hft_cons call_or (tc_or hev hS) (hft_cas hev hS)
theorem call_and : Callable Tryz.prog 138 := callable_of Tryz.func138 (by kernel_rfl) (by kernel_rfl)
theorem chk_and : fnChk Tryz.prog kd evE (ftLook ft_or) prot Tryz.f138 sg_and = true := by kernel_rfl
theorem tc_and (hev : EvG sh G) (hS : Safe kd prot G) : TC Tryz.prog kd sh B G 138 sg_and := fn_sound Tryz.func138 chk_and (hft_or hev hS) hev hS mixed
theorem hft_and (hev : EvG sh G) (hS : Safe kd prot G) : ∀ f s, ftLook ft_and f = some s → Callable Tryz.prog f ∧ TC Tryz.prog kd sh B G f s := hft_cons call_and (tc_and hev hS) (hft_or hev hS)
theorem call_add : Callable Tryz.prog 141 := callable_of Tryz.func141 (by kernel_rfl) (by kernel_rfl)
theorem chk_add : fnChk Tryz.prog kd evE (ftLook ft_and) prot Tryz.f141 sg_add = true := by kernel_rfl
theorem tc_add (hev : EvG sh G) (hS : Safe kd prot G) : TC Tryz.prog kd sh B G 141 sg_add := fn_sound Tryz.func141 chk_add (hft_and hev hS) hev hS mixed
theorem hft_add (hev : EvG sh G) (hS : Safe kd prot G) : ∀ f s, ftLook ft_add f = some s → Callable Tryz.prog f ∧ TC Tryz.prog kd sh B G f s := hft_cons call_add (tc_add hev hS) (hft_and hev hS)
theorem call_Task : Callable Tryz.prog 85 := callable_of Tryz.func85 (by kernel_rfl) (by kernel_rfl)
theorem chk_Task : fnChk Tryz.prog kd evE (ftLook ft_add) prot Tryz.f85 sg_Task = true := by kernel_rfl
theorem tc_Task (hev : EvG sh G) (hS : Safe kd prot G) : TC Tryz.prog kd sh B G 85 sg_Task := fn_sound Tryz.func85 chk_Task (hft_add hev hS) hev hS mixed
theorem hft_Task (hev : EvG sh G) (hS : Safe kd prot G) : ∀ f s, ftLook ft_Task f = some s → Callable Tryz.prog f ∧ TC Tryz.prog kd sh B G f s := hft_cons call_Task (tc_Task hev hS) (hft_add hev hS)
theorem call_Emit : Callable Tryz.prog 113 := callable_of Tryz.func113 (by kernel_rfl) (by kernel_rfl)
theorem chk_Emit : fnChk Tryz.prog kd evE (ftLook ft_Task) prot Tryz.f113 sg_Emit = true := by kernel_rfl
theorem tc_Emit (hev : EvG sh G) (hS : Safe kd prot G) : TC Tryz.prog kd sh B G 113 sg_Emit := fn_sound Tryz.func113 chk_Emit (hft_Task hev hS) hev hS mixed
theorem hft_Emit (hev : EvG sh G) (hS : Safe kd prot G) : ∀ f s, ftLook ft_Emit f = some s → Callable Tryz.prog f ∧ TC Tryz.prog kd sh B G f s := hft_cons call_Emit (tc_Emit hev hS) (hft_Task hev hS)
theorem call_Fresh : Callable Tryz.prog 65 := callable_of Tryz.func65 (by kernel_rfl) (by kernel_rfl)
theorem chk_Fresh : fnChk Tryz.prog kd evE (ftLook ft_Emit) prot Tryz.f65 sg_Fresh = true := by kernel_rfl
theorem tc_Fresh (hev : EvG sh G) (hS : Safe kd prot G) : TC Tryz.prog kd sh B G 65 sg_Fresh := fn_sound Tryz.func65 chk_Fresh (hft_Emit hev hS) hev hS mixed
theorem hft_Fresh (hev : EvG sh G) (hS : Safe kd prot G) : ∀ f s, ftLook ft_Fresh f = some s → Callable Tryz.prog f ∧ TC Tryz.prog kd sh B G f s := hft_cons call_Fresh (tc_Fresh hev hS) (hft_Emit hev hS)
theorem call_end : Callable Tryz.prog 95 := callable_of Tryz.func95 (by kernel_rfl) (by kernel_rfl)
theorem chk_end : fnChk Tryz.prog kd evE (ftLook ft_Fresh) prot Tryz.f95 sg_end = true := by kernel_rfl
theorem tc_end (hev : EvG sh G) (hS : Safe kd prot G) : TC Tryz.prog kd sh B G 95 sg_end := fn_sound Tryz.func95 chk_end (hft_Fresh hev hS) hev hS mixed
theorem hft_end (hev : EvG sh G) (hS : Safe kd prot G) : ∀ f s, ftLook ft_end f = some s → Callable Tryz.prog f ∧ TC Tryz.prog kd sh B G f s := hft_cons call_end (tc_end hev hS) (hft_Fresh hev hS)
theorem call_Size : Callable Tryz.prog 134 := callable_of Tryz.func134 (by kernel_rfl) (by kernel_rfl)
theorem chk_Size : fnChk Tryz.prog kd evE (ftLook ft_end) prot Tryz.f134 sg_Size = true := by kernel_rfl
theorem tc_Size (hev : EvG sh G) (hS : Safe kd prot G) : TC Tryz.prog kd sh B G 134 sg_Size := fn_sound Tryz.func134 chk_Size (hft_end hev hS) hev hS mixed
theorem hft_Size (hev : EvG sh G) (hS : Safe kd prot G) : ∀ f s, ftLook ft_Size f = some s → Callable Tryz.prog f ∧ TC Tryz.prog kd sh B G f s := hft_cons call_Size (tc_Size hev hS) (hft_end hev hS)
theorem call_Ring : Callable Tryz.prog 135 := callable_of Tryz.func135 (by kernel_rfl) (by kernel_rfl)
theorem hft_Ring (hev : EvG sh G) (hS : Safe kd prot G) : ∀ f s, ftLook ft_Ring f = some s → Callable Tryz.prog f ∧ TC Tryz.prog kd sh B G f s := hft_cons call_Ring tc_Ring (hft_Size hev hS)
theorem call_RunFrame : Callable Tryz.prog 133 := callable_of Tryz.func133 (by kernel_rfl) (by kernel_rfl)
theorem chk_RunFrame : fnChk Tryz.prog kd evE (ftLook ft_Ring) prot Tryz.f133 sg_RunFrame = true := by kernel_rfl
theorem tc_RunFrame (hev : EvG sh G) (hS : Safe kd prot G) : TC Tryz.prog kd sh B G 133 sg_RunFrame := fn_sound Tryz.func133 chk_RunFrame (hft_Ring hev hS) hev hS mixed
theorem hft_RunFrame (hev : EvG sh G) (hS : Safe kd prot G) : ∀ f s, ftLook ft_RunFrame f = some s → Callable Tryz.prog f ∧ TC Tryz.prog kd sh B G f s := hft_cons call_RunFrame (tc_RunFrame hev hS) (hft_Ring hev hS)
theorem call_Make : Callable Tryz.prog 54 := callable_of Tryz.func54 (by kernel_rfl) (by kernel_rfl)
theorem chk_Make : fnChk Tryz.prog kd evE (ftLook ft_RunFrame) prot Tryz.f54 sg_Make = true := by kernel_rfl
theorem tc_Make (hev : EvG sh G) (hS : Safe kd prot G) : TC Tryz.prog kd sh B G 54 sg_Make := fn_sound Tryz.func54 chk_Make (hft_RunFrame hev hS) hev hS mixed
theorem hft_Make (hev : EvG sh G) (hS : Safe kd prot G) : ∀ f s, ftLook ft_Make f = some s → Callable Tryz.prog f ∧ TC Tryz.prog kd sh B G f s := hft_cons call_Make (tc_Make hev hS) (hft_RunFrame hev hS)
theorem call_following : Callable Tryz.prog 161 := callable_of Tryz.func161 (by kernel_rfl) (by kernel_rfl)
theorem chk_following : fnChk Tryz.prog kd evE (ftLook ft_Make) prot Tryz.f161 sg_following = true := by kernel_rfl
theorem tc_following (hev : EvG sh G) (hS : Safe kd prot G) : TC Tryz.prog kd sh B G 161 sg_following := fn_sound Tryz.func161 chk_following (hft_Make hev hS) hev hS mixed
theorem hft_following (hev : EvG sh G) (hS : Safe kd prot G) : ∀ f s, ftLook ft_following f = some s → Callable Tryz.prog f ∧ TC Tryz.prog kd sh B G f s := hft_cons call_following (tc_following hev hS) (hft_Make hev hS)
theorem call_push : Callable Tryz.prog 90 := callable_of Tryz.func90 (by kernel_rfl) (by kernel_rfl)
theorem chk_push : fnChk Tryz.prog kd evE (ftLook ft_following) prot Tryz.f90 sg_push = true := by kernel_rfl
theorem tc_push (hev : EvG sh G) (hS : Safe kd prot G) : TC Tryz.prog kd sh B G 90 sg_push := fn_sound Tryz.func90 chk_push (hft_following hev hS) hev hS mixed
theorem hft_push (hev : EvG sh G) (hS : Safe kd prot G) : ∀ f s, ftLook ft_push f = some s → Callable Tryz.prog f ∧ TC Tryz.prog kd sh B G f s := hft_cons call_push (tc_push hev hS) (hft_following hev hS)
theorem call_pop : Callable Tryz.prog 91 := callable_of Tryz.func91 (by kernel_rfl) (by kernel_rfl)
theorem chk_pop : fnChk Tryz.prog kd evE (ftLook ft_push) prot Tryz.f91 sg_pop = true := by kernel_rfl
theorem tc_pop (hev : EvG sh G) (hS : Safe kd prot G) : TC Tryz.prog kd sh B G 91 sg_pop := fn_sound Tryz.func91 chk_pop (hft_push hev hS) hev hS mixed
theorem hft_pop (hev : EvG sh G) (hS : Safe kd prot G) : ∀ f s, ftLook ft_pop f = some s → Callable Tryz.prog f ∧ TC Tryz.prog kd sh B G f s := hft_cons call_pop (tc_pop hev hS) (hft_push hev hS)
theorem call_steal : Callable Tryz.prog 92 := callable_of Tryz.func92 (by kernel_rfl) (by kernel_rfl)
theorem chk_steal : fnChk Tryz.prog kd evE (ftLook ft_pop) prot Tryz.f92 sg_steal = true := by kernel_rfl
theorem tc_steal (hev : EvG sh G) (hS : Safe kd prot G) : TC Tryz.prog kd sh B G 92 sg_steal := fn_sound Tryz.func92 chk_steal (hft_pop hev hS) hev hS mixed
theorem hft_steal (hev : EvG sh G) (hS : Safe kd prot G) : ∀ f s, ftLook ft_steal f = some s → Callable Tryz.prog f ∧ TC Tryz.prog kd sh B G f s := hft_cons call_steal (tc_steal hev hS) (hft_pop hev hS)
theorem call_clearBit : Callable Tryz.prog 96 := callable_of Tryz.func96 (by kernel_rfl) (by kernel_rfl)
theorem chk_clearBit : fnChk Tryz.prog kd evE (ftLook ft_steal) prot Tryz.f96 sg_clearBit = true := by kernel_rfl
theorem tc_clearBit (hev : EvG sh G) (hS : Safe kd prot G) : TC Tryz.prog kd sh B G 96 sg_clearBit := fn_sound Tryz.func96 chk_clearBit (hft_steal hev hS) hev hS mixed
theorem hft_clearBit (hev : EvG sh G) (hS : Safe kd prot G) : ∀ f s, ftLook ft_clearBit f = some s → Callable Tryz.prog f ∧ TC Tryz.prog kd sh B G f s := hft_cons call_clearBit (tc_clearBit hev hS) (hft_steal hev hS)
theorem call_insert : Callable Tryz.prog 101 := callable_of Tryz.func101 (by kernel_rfl) (by kernel_rfl)
theorem chk_insert : fnChk Tryz.prog kd evE (ftLook ft_clearBit) prot Tryz.f101 sg_insert = true := by kernel_rfl
theorem tc_insert (hev : EvG sh G) (hS : Safe kd prot G) : TC Tryz.prog kd sh B G 101 sg_insert := fn_sound Tryz.func101 chk_insert (hft_clearBit hev hS) hev hS mixed
theorem hft_insert (hev : EvG sh G) (hS : Safe kd prot G) : ∀ f s, ftLook ft_insert f = some s → Callable Tryz.prog f ∧ TC Tryz.prog kd sh B G f s := hft_cons call_insert (tc_insert hev hS) (hft_clearBit hev hS)
theorem call_child : Callable Tryz.prog 144 := callable_of Tryz.func144 (by kernel_rfl) (by kernel_rfl)
theorem chk_child : fnChk Tryz.prog kd evE (ftLook ft_insert) prot Tryz.f144 sg_child = true := by kernel_rfl
theorem tc_child (hev : EvG sh G) (hS : Safe kd prot G) : TC Tryz.prog kd sh B G 144 sg_child := fn_sound Tryz.func144 chk_child (hft_insert hev hS) hev hS mixed
theorem hft_child (hev : EvG sh G) (hS : Safe kd prot G) : ∀ f s, ftLook ft_child f = some s → Callable Tryz.prog f ∧ TC Tryz.prog kd sh B G f s := hft_cons call_child (tc_child hev hS) (hft_insert hev hS)
theorem call_lesser : Callable Tryz.prog 145 := callable_of Tryz.func145 (by kernel_rfl) (by kernel_rfl)
theorem chk_lesser : fnChk Tryz.prog kd evE (ftLook ft_child) prot Tryz.f145 sg_lesser = true := by kernel_rfl
theorem tc_lesser (hev : EvG sh G) (hS : Safe kd prot G) : TC Tryz.prog kd sh B G 145 sg_lesser := fn_sound Tryz.func145 chk_lesser (hft_child hev hS) hev hS mixed
theorem hft_lesser (hev : EvG sh G) (hS : Safe kd prot G) : ∀ f s, ftLook ft_lesser f = some s → Callable Tryz.prog f ∧ TC Tryz.prog kd sh B G f s := hft_cons call_lesser (tc_lesser hev hS) (hft_child hev hS)
theorem call_taskOf : Callable Tryz.prog 147 := callable_of Tryz.func147 (by kernel_rfl) (by kernel_rfl)
theorem chk_taskOf : fnChk Tryz.prog kd evE (ftLook ft_lesser) prot Tryz.f147 sg_taskOf = true := by kernel_rfl
theorem tc_taskOf (hev : EvG sh G) (hS : Safe kd prot G) : TC Tryz.prog kd sh B G 147 sg_taskOf := fn_sound Tryz.func147 chk_taskOf (hft_lesser hev hS) hev hS mixed
theorem hft_taskOf (hev : EvG sh G) (hS : Safe kd prot G) : ∀ f s, ftLook ft_taskOf f = some s → Callable Tryz.prog f ∧ TC Tryz.prog kd sh B G f s := hft_cons call_taskOf (tc_taskOf hev hS) (hft_lesser hev hS)
theorem call_remove : Callable Tryz.prog 102 := callable_of Tryz.func102 (by kernel_rfl) (by kernel_rfl)
theorem chk_remove : fnChk Tryz.prog kd evE (ftLook ft_taskOf) prot Tryz.f102 sg_remove = true := by kernel_rfl
theorem tc_remove (hev : EvG sh G) (hS : Safe kd prot G) : TC Tryz.prog kd sh B G 102 sg_remove := fn_sound Tryz.func102 chk_remove (hft_taskOf hev hS) hev hS mixed
theorem hft_remove (hev : EvG sh G) (hS : Safe kd prot G) : ∀ f s, ftLook ft_remove f = some s → Callable Tryz.prog f ∧ TC Tryz.prog kd sh B G f s := hft_cons call_remove (tc_remove hev hS) (hft_taskOf hev hS)
theorem call_boost : Callable Tryz.prog 104 := callable_of Tryz.func104 (by kernel_rfl) (by kernel_rfl)
theorem chk_boost : fnChk Tryz.prog kd evE (ftLook ft_remove) prot Tryz.f104 sg_boost = true := by kernel_rfl
theorem tc_boost (hev : EvG sh G) (hS : Safe kd prot G) : TC Tryz.prog kd sh B G 104 sg_boost := fn_sound Tryz.func104 chk_boost (hft_remove hev hS) hev hS mixed
theorem hft_boost (hev : EvG sh G) (hS : Safe kd prot G) : ∀ f s, ftLook ft_boost f = some s → Callable Tryz.prog f ∧ TC Tryz.prog kd sh B G f s := hft_cons call_boost (tc_boost hev hS) (hft_remove hev hS)
theorem call_sweep : Callable Tryz.prog 105 := callable_of Tryz.func105 (by kernel_rfl) (by kernel_rfl)
theorem chk_sweep : fnChk Tryz.prog kd evE (ftLook ft_boost) prot Tryz.f105 sg_sweep = true := by kernel_rfl
theorem tc_sweep (hev : EvG sh G) (hS : Safe kd prot G) : TC Tryz.prog kd sh B G 105 sg_sweep := fn_sound Tryz.func105 chk_sweep (hft_boost hev hS) hev hS mixed
theorem hft_sweep (hev : EvG sh G) (hS : Safe kd prot G) : ∀ f s, ftLook ft_sweep f = some s → Callable Tryz.prog f ∧ TC Tryz.prog kd sh B G f s := hft_cons call_sweep (tc_sweep hev hS) (hft_boost hev hS)
theorem call_sleep : Callable Tryz.prog 106 := callable_of Tryz.func106 (by kernel_rfl) (by kernel_rfl)
theorem chk_sleep : fnChk Tryz.prog kd evE (ftLook ft_sweep) prot Tryz.f106 sg_sleep = true := by kernel_rfl
theorem tc_sleep (hev : EvG sh G) (hS : Safe kd prot G) : TC Tryz.prog kd sh B G 106 sg_sleep := fn_sound Tryz.func106 chk_sleep (hft_sweep hev hS) hev hS mixed
theorem hft_sleep (hev : EvG sh G) (hS : Safe kd prot G) : ∀ f s, ftLook ft_sleep f = some s → Callable Tryz.prog f ∧ TC Tryz.prog kd sh B G f s := hft_cons call_sleep (tc_sleep hev hS) (hft_sweep hev hS)
theorem call_wake : Callable Tryz.prog 107 := callable_of Tryz.func107 (by kernel_rfl) (by kernel_rfl)
theorem chk_wake : fnChk Tryz.prog kd evE (ftLook ft_sleep) prot Tryz.f107 sg_wake = true := by kernel_rfl
theorem tc_wake (hev : EvG sh G) (hS : Safe kd prot G) : TC Tryz.prog kd sh B G 107 sg_wake := fn_sound Tryz.func107 chk_wake (hft_sleep hev hS) hev hS mixed
theorem hft_wake (hev : EvG sh G) (hS : Safe kd prot G) : ∀ f s, ftLook ft_wake f = some s → Callable Tryz.prog f ∧ TC Tryz.prog kd sh B G f s := hft_cons call_wake (tc_wake hev hS) (hft_sleep hev hS)
theorem call_drain : Callable Tryz.prog 109 := callable_of Tryz.func109 (by kernel_rfl) (by kernel_rfl)
theorem chk_drain : fnChk Tryz.prog kd evE (ftLook ft_wake) prot Tryz.f109 sg_drain = true := by kernel_rfl
theorem tc_drain (hev : EvG sh G) (hS : Safe kd prot G) : TC Tryz.prog kd sh B G 109 sg_drain := fn_sound Tryz.func109 chk_drain (hft_wake hev hS) hev hS mixed
theorem hft_drain (hev : EvG sh G) (hS : Safe kd prot G) : ∀ f s, ftLook ft_drain f = some s → Callable Tryz.prog f ∧ TC Tryz.prog kd sh B G f s := hft_cons call_drain (tc_drain hev hS) (hft_wake hev hS)
theorem call_backWalk : Callable Tryz.prog 112 := callable_of Tryz.func112 (by kernel_rfl) (by kernel_rfl)
theorem chk_backWalk : fnChk Tryz.prog kd evE (ftLook ft_drain) prot Tryz.f112 sg_backWalk = true := by kernel_rfl
theorem tc_backWalk (hev : EvG sh G) (hS : Safe kd prot G) : TC Tryz.prog kd sh B G 112 sg_backWalk := fn_sound Tryz.func112 chk_backWalk (hft_drain hev hS) hev hS mixed
theorem hft_backWalk (hev : EvG sh G) (hS : Safe kd prot G) : ∀ f s, ftLook ft_backWalk f = some s → Callable Tryz.prog f ∧ TC Tryz.prog kd sh B G f s := hft_cons call_backWalk (tc_backWalk hev hS) (hft_drain hev hS)
theorem call_backDrain : Callable Tryz.prog 114 := callable_of Tryz.func114 (by kernel_rfl) (by kernel_rfl)
theorem chk_backDrain : fnChk Tryz.prog kd evE (ftLook ft_backWalk) prot Tryz.f114 sg_backDrain = true := by kernel_rfl
theorem tc_backDrain (hev : EvG sh G) (hS : Safe kd prot G) : TC Tryz.prog kd sh B G 114 sg_backDrain := fn_sound Tryz.func114 chk_backDrain (hft_backWalk hev hS) hev hS mixed
theorem hft_backDrain (hev : EvG sh G) (hS : Safe kd prot G) : ∀ f s, ftLook ft_backDrain f = some s → Callable Tryz.prog f ∧ TC Tryz.prog kd sh B G f s := hft_cons call_backDrain (tc_backDrain hev hS) (hft_backWalk hev hS)
theorem call_backTake : Callable Tryz.prog 115 := callable_of Tryz.func115 (by kernel_rfl) (by kernel_rfl)
theorem chk_backTake : fnChk Tryz.prog kd evE (ftLook ft_backDrain) prot Tryz.f115 sg_backTake = true := by kernel_rfl
theorem tc_backTake (hev : EvG sh G) (hS : Safe kd prot G) : TC Tryz.prog kd sh B G 115 sg_backTake := fn_sound Tryz.func115 chk_backTake (hft_backDrain hev hS) hev hS mixed
theorem hft_backTake (hev : EvG sh G) (hS : Safe kd prot G) : ∀ f s, ftLook ft_backTake f = some s → Callable Tryz.prog f ∧ TC Tryz.prog kd sh B G f s := hft_cons call_backTake (tc_backTake hev hS) (hft_backDrain hev hS)
theorem call_backWorker : Callable Tryz.prog 117 := callable_of Tryz.func117 (by kernel_rfl) (by kernel_rfl)
theorem chk_backWorker : fnChk Tryz.prog kd evE (ftLook ft_backTake) prot Tryz.f117 sg_backWorker = true := by kernel_rfl
theorem tc_backWorker (hev : EvG sh G) (hS : Safe kd prot G) : TC Tryz.prog kd sh B G 117 sg_backWorker := fn_sound Tryz.func117 chk_backWorker (hft_backTake hev hS) hev hS mixed
theorem hft_backWorker (hev : EvG sh G) (hS : Safe kd prot G) : ∀ f s, ftLook ft_backWorker f = some s → Callable Tryz.prog f ∧ TC Tryz.prog kd sh B G f s := hft_cons call_backWorker (tc_backWorker hev hS) (hft_backTake hev hS)
theorem call_enterDrain : Callable Tryz.prog 86 := callable_of Tryz.func86 (by kernel_rfl) (by kernel_rfl)
theorem chk_enterDrain : fnChk Tryz.prog kd evE (ftLook ft_backWorker) prot Tryz.f86 sg_enterDrain = true := by kernel_rfl
theorem tc_enterDrain (hev : EvG sh G) (hS : Safe kd prot G) : TC Tryz.prog kd sh B G 86 sg_enterDrain := fn_sound Tryz.func86 chk_enterDrain (hft_backWorker hev hS) hev hS mixed
theorem hft_enterDrain (hev : EvG sh G) (hS : Safe kd prot G) : ∀ f s, ftLook ft_enterDrain f = some s → Callable Tryz.prog f ∧ TC Tryz.prog kd sh B G f s := hft_cons call_enterDrain (tc_enterDrain hev hS) (hft_backWorker hev hS)
theorem call_enterWorker : Callable Tryz.prog 88 := callable_of Tryz.func88 (by kernel_rfl) (by kernel_rfl)
theorem chk_enterWorker : fnChk Tryz.prog kd evE (ftLook ft_enterDrain) prot Tryz.f88 sg_enterWorker = true := by kernel_rfl
theorem tc_enterWorker (hev : EvG sh G) (hS : Safe kd prot G) : TC Tryz.prog kd sh B G 88 sg_enterWorker := fn_sound Tryz.func88 chk_enterWorker (hft_enterDrain hev hS) hev hS mixed
theorem hft_enterWorker (hev : EvG sh G) (hS : Safe kd prot G) : ∀ f s, ftLook ft_enterWorker f = some s → Callable Tryz.prog f ∧ TC Tryz.prog kd sh B G f s := hft_cons call_enterWorker (tc_enterWorker hev hS) (hft_enterDrain hev hS)
theorem call_claim : Callable Tryz.prog 146 := callable_of Tryz.func146 (by kernel_rfl) (by kernel_rfl)
theorem hft_claim (hev : EvG sh G) (hS : Safe kd prot G) (hclaim : TC Tryz.prog kd sh B G 146 sg_claim) : ∀ f s, ftLook ft_claim f = some s → Callable Tryz.prog f ∧ TC Tryz.prog kd sh B G f s := hft_cons call_claim hclaim (hft_enterWorker hev hS)
theorem call_table : Callable Tryz.prog 103 := callable_of Tryz.func103 (by kernel_rfl) (by kernel_rfl)
theorem chk_table : fnChk Tryz.prog kd evE (ftLook ft_claim) prot Tryz.f103 sg_table = true := by kernel_rfl
theorem tc_table (hev : EvG sh G) (hS : Safe kd prot G) (hclaim : TC Tryz.prog kd sh B G 146 sg_claim) : TC Tryz.prog kd sh B G 103 sg_table := fn_sound Tryz.func103 chk_table (hft_claim hev hS hclaim) hev hS mixed
theorem hft_table (hev : EvG sh G) (hS : Safe kd prot G) (hclaim : TC Tryz.prog kd sh B G 146 sg_claim) : ∀ f s, ftLook ft_table f = some s → Callable Tryz.prog f ∧ TC Tryz.prog kd sh B G f s := hft_cons call_table (tc_table hev hS hclaim) (hft_claim hev hS hclaim)
theorem call_probe : Callable Tryz.prog 108 := callable_of Tryz.func108 (by kernel_rfl) (by kernel_rfl)
theorem hft_probe (hev : EvG sh G) (hS : Safe kd prot G) (hclaim : TC Tryz.prog kd sh B G 146 sg_claim) (hprobe : TC Tryz.prog kd sh B G 108 sg_probe) : ∀ f s, ftLook ft_probe f = some s → Callable Tryz.prog f ∧ TC Tryz.prog kd sh B G f s := hft_cons call_probe hprobe (hft_table hev hS hclaim)
end Go.Proofs.YtncnepmgmphanaaGreatDoor
