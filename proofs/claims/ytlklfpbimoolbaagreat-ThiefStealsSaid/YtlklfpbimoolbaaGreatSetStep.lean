/- Set's machine: what a step does. (Written by wip/gen_mach.py.) -/
import Derived.Test.YtlklfpbimoolbaaGreatPushStep
namespace Go.Proofs.YtlklfpbimoolbaaGreat
open Go.RowKit

def setO (k : K) : Obj := .cells #[.bool k.over, .int .i64 k.code, .int .i64 k.val, .int .i64 k.a, .int .i64 k.b] 123 (0, 0)

theorem set_over (w : World) (p en m bc : Nat) (k : K) (s : MS) (ho : k.over = true) (hP : w.heap[p]? = some (setO k)) (hM : MemAt w m bc s) :
    Calls Tryz.prog 199 #[.pointer (some ⟨p, 0, none⟩), .pointer (some ⟨en, 0, none⟩)] w (StepPost p m bc setO k s w) := by
  have FIN := Lib.hid (StepPost.mk (stepK_over ho) ho (Only.refl [p, m, bc] w) hP hM)
  unfold setO at hP
  rw [ho] at hP
  have c0 := cell_blk hP 0
  simp at c0
  have he2 := ended_any w p true c0
  clear hP hM
  go_enter Tryz.func199, Tryz.ntmps199
  go_wp2_with fail
  refine he2.mono ?_; rintro e w' ⟨rfl, rfl⟩
  go_wp2_with fail
  go_ret
  exact FIN.out

set_option maxRecDepth 100000 in
set_option maxHeartbeats 400000 in
theorem set_1 (w : World) (p en m bc : Nat) (k : K) (s : MS) (hk : k.kind = 3) (ho : k.over = false)  (hA : Apart p en m bc) (hE : w.cell? ⟨en, 22, none⟩ = some (.pointer (some ⟨m, 0, none⟩)))
    (hP : w.heap[p]? = some (setO k)) (hM : MemAt w m bc s) (hn : s.count ≤ 4000000000000000000) :
    Calls Tryz.prog 199 #[.pointer (some ⟨p, 0, none⟩), .pointer (some ⟨en, 0, none⟩)] w (StepPost p m bc setO k s w) := by
  have hs : stepK k s = (k.fin 0 0, s.put 4 k.a (orB (s.at k.a) (mask k.b))) := by unfold stepK; simp [ho, hk]
  have HS := Lib.hid hs
  clear hs
  have HP := Lib.hid hP
  unfold setO at hP
  rw [ho] at hP
  have c0 := cell_blk hP 0
  have c3 := cell_blk hP 3
  have c4 := cell_blk hP 4
  simp at c0 c3 c4
  have HM := Lib.hid hM
  have HA := Lib.hid hA
  have he2 := ended_any w p false c0
  clear hP hM hA
  go_enter Tryz.func199, Tryz.ntmps199
  go_wp2_with fail
  refine he2.mono ?_; rintro e w' ⟨rfl, rfl⟩
  go_wp2_with fail
  go_region_held3 (fun w' => w'.cell? ⟨en, 22, none⟩ = some (.pointer (some ⟨m, 0, none⟩)) ∧ w'.cell? ⟨p, 3, none⟩ = some (.int .i64 k.a) ∧ w'.cell? ⟨p, 4, none⟩ = some (.int .i64 k.b))
    (first | exact ⟨hE, c3, c4⟩ | exact ⟨eE, g3, g4⟩)
    ((first
      | (go_at_call 201; refine (bit_any _ k.b).mono ?_; rintro e w' ⟨rfl, rfl⟩)
      | (go_at_call 200; refine (or_any w.drew m bc s k.a (mask k.b) HM.out.drew hn).mono ?_; rintro e w1 ⟨rfl, o1, h1⟩
         have O1 := Lib.hid o1.undrew
         have H1 := Lib.hid h1
         have P1 := Lib.hid (o1.keep HP.out HA.out.p2)
         have eE : w1.cell? ⟨en, 22, none⟩ = some (.pointer (some ⟨m, 0, none⟩)) := o1.keepCell hE HA.out.e2
         have g3 := cell_blk P1.out 3
         have g4 := cell_blk P1.out 4
         simp at g3 g4
         clear o1 h1)))
  go_wp2_with fail
  refine (end_any _ p _ false k.code k.val 0 0 _ (by have := P1.out; unfold setO at this; rw [ho] at this; exact this)).mono ?_; rintro e w9 ⟨rfl, o9, h9⟩
  go_wp2_with fail
  go_ret
  exact StepPost.mk HS.out rfl (mach_only HA.out O1.out o9) h9 (mach_mem HA.out o9 H1.out)

theorem set_step (w : World) (p en m bc : Nat) (k : K) (s : MS) (hk : k.kind = 3) (_hok : k.over = false → k.ok) (hA : Apart p en m bc) (hE : w.cell? ⟨en, 22, none⟩ = some (.pointer (some ⟨m, 0, none⟩)))
    (hP : w.heap[p]? = some (setO k)) (hM : MemAt w m bc s) (hn : s.count ≤ 4000000000000000000) :
    Calls Tryz.prog 199 #[.pointer (some ⟨p, 0, none⟩), .pointer (some ⟨en, 0, none⟩)] w (StepPost p m bc setO k s w) := by
  cases ho : k.over with
  | true => exact set_over w p en m bc k s ho hP hM
  | false =>
    exact set_1 w p en m bc k s hk ho hA hE hP hM hn

end Go.Proofs.YtlklfpbimoolbaaGreat
