/- The statements MemorySums, MemoryOnce, MemorySizes and MemoryBits of chapter 2 (memory): each law returns true for every input. No condition. -/
import Derived.Test.YtiijgnnejdcedaaLaw
import Derived.Test.YtiijgnnejdcedaaMemLaws
namespace Go.Proofs.Ytiijgnnejdcedaa
open Go.ChangeShapes Go.WideShapes Go.ChangeAt Go.RowKit
set_option linter.unusedVariables false

theorem MemorySums_law : LawWalk 6 Try.f6 := by
  intro H enc W base args ds ps hval hA hlt hsz
  rw [Try.params6] at hA hval
  obtain ⟨v0, vs0, d0, ds0, p0, q0, hargs, rfl, rfl, h0, r0⟩ := trodAll_cons hA
  obtain ⟨rfl, rfl, rfl⟩ := trodAll_nil r0
  obtain rfl : args = #[v0] := by cases args; simp_all
  obtain ⟨ao0, cap0, zs0, rfl, c0, w0, l0, m0⟩ := open_islice Try.underlying32 Try.underlying35 (by kernel_rfl) (hval 0 32 v0 rfl rfl) h0
  exact MemorySums_any W ao0 cap0 zs0 c0

set_option maxRecDepth 100000 in
theorem MemorySums_lifted (os : Os) (started : os.Started) (H : Type) (enc : TypeId × Value → H) :
    ReturnsInHanded {} Try.checked os 6 .any (Rows.memorySumsSpec.pre6 enc Try.prog Try.f6 Rows.memorySumsRow.domain false) (Rows.memorySumsSpec.post enc Try.prog Try.f6 false true false false) :=
  law_lifted (enc := enc) (s := Rows.memorySumsSpec) started (by kernel_rfl) Try.func6 rfl
      (ChangeSpec.witness6 (enc := enc) (C := Try.checked) false ⟨#[], #[.slice none 0 0], []⟩ 8 (by kernel_rfl) (by kernel_rfl) (by kernel_rfl) (by kernel_rfl))
      rfl (readable_all (by kernel_rfl))
      (by intro ds h; rw [Try.params6] at h; match ds, h with | [x0], _ => exact ⟨rfl, rfl, rfl⟩)
      MemorySums_law

theorem MemorySums_holds : Rows.MemorySumsSaid :=
  OpenClaim.holds_of_wide 6 Try.f6 rfl rfl rfl rfl rfl rfl rfl ⟨rfl, rfl, rfl, rfl, rfl⟩ rfl rfl rfl rfl rfl (by kernel_rfl) Try.func6 (by kernel_rfl)
    (of_decide_eq_true (by kernel_rfl)) (by unfold Func.isWrapper; first | (rw [if_pos (by decide +kernel)]; kernel_rfl) | (rw [if_neg (by decide +kernel)]; exact ⟨rfl, rfl⟩))
    (fun os started H enc _ => MemorySums_lifted os started H enc)

theorem MemoryOnce_law : LawWalk 7 Try.f7 := by
  intro H enc W base args ds ps hval hA hlt hsz
  rw [Try.params7] at hA hval
  obtain ⟨v0, vs0, d0, ds0, p0, q0, hargs, rfl, rfl, h0, r0⟩ := trodAll_cons hA
  obtain ⟨v1, vs1, d1, ds1, p1, q1, rfl, rfl, rfl, h1, r1⟩ := trodAll_cons r0
  obtain ⟨rfl, rfl, rfl⟩ := trodAll_nil r1
  obtain rfl : args = #[v0, v1] := by cases args; simp_all
  obtain ⟨a0, rfl, rfl, rfl, w0⟩ := open_int Try.underlying35 (hval 0 35 v0 rfl rfl) h0
  obtain ⟨ao1, cap1, zs1, rfl, c1, w1, l1, m1⟩ := open_islice Try.underlying32 Try.underlying35 (by kernel_rfl) (hval 1 32 v1 rfl rfl) h1
  exact MemoryOnce_any W a0 ao1 cap1 zs1 c1

set_option maxRecDepth 100000 in
theorem MemoryOnce_lifted (os : Os) (started : os.Started) (H : Type) (enc : TypeId × Value → H) :
    ReturnsInHanded {} Try.checked os 7 .any (Rows.memoryOnceSpec.pre6 enc Try.prog Try.f7 Rows.memoryOnceRow.domain false) (Rows.memoryOnceSpec.post enc Try.prog Try.f7 false true false false) :=
  law_lifted (enc := enc) (s := Rows.memoryOnceSpec) started (by kernel_rfl) Try.func7 rfl
      (ChangeSpec.witness6 (enc := enc) (C := Try.checked) false ⟨#[], #[.int .u64 0, .slice none 0 0], []⟩ 8 (by kernel_rfl) (by kernel_rfl) (by kernel_rfl) (by kernel_rfl))
      rfl (readable_all (by kernel_rfl))
      (by intro ds h; rw [Try.params7] at h; match ds, h with | [x0, x1], _ => exact ⟨rfl, rfl, rfl⟩)
      MemoryOnce_law

theorem MemoryOnce_holds : Rows.MemoryOnceSaid :=
  OpenClaim.holds_of_wide 7 Try.f7 rfl rfl rfl rfl rfl rfl rfl ⟨rfl, rfl, rfl, rfl, rfl⟩ rfl rfl rfl rfl rfl (by kernel_rfl) Try.func7 (by kernel_rfl)
    (of_decide_eq_true (by kernel_rfl)) (by unfold Func.isWrapper; first | (rw [if_pos (by decide +kernel)]; kernel_rfl) | (rw [if_neg (by decide +kernel)]; exact ⟨rfl, rfl⟩))
    (fun os started H enc _ => MemoryOnce_lifted os started H enc)

theorem MemorySizes_law : LawWalk 8 Try.f8 := by
  intro H enc W base args ds ps hval hA hlt hsz
  rw [Try.params8] at hA hval
  obtain ⟨v0, vs0, d0, ds0, p0, q0, hargs, rfl, rfl, h0, r0⟩ := trodAll_cons hA
  obtain ⟨rfl, rfl, rfl⟩ := trodAll_nil r0
  obtain rfl : args = #[v0] := by cases args; simp_all
  obtain ⟨a0, rfl, rfl, rfl, w0⟩ := open_int Try.underlying3 (hval 0 3 v0 rfl rfl) h0
  exact MemorySizes_any W a0 (wf_i64 w0)

set_option maxRecDepth 100000 in
theorem MemorySizes_lifted (os : Os) (started : os.Started) (H : Type) (enc : TypeId × Value → H) :
    ReturnsInHanded {} Try.checked os 8 .any (Rows.memorySizesSpec.pre6 enc Try.prog Try.f8 Rows.memorySizesRow.domain false) (Rows.memorySizesSpec.post enc Try.prog Try.f8 false true false false) :=
  law_lifted (enc := enc) (s := Rows.memorySizesSpec) started (by kernel_rfl) Try.func8 rfl
      (ChangeSpec.witness6 (enc := enc) (C := Try.checked) false ⟨#[], #[.int .i64 0], []⟩ 8 (by kernel_rfl) (by kernel_rfl) (by kernel_rfl) (by kernel_rfl))
      rfl (readable_all (by kernel_rfl))
      (by intro ds h; rw [Try.params8] at h; match ds, h with | [x0], _ => exact ⟨rfl, rfl, rfl⟩)
      MemorySizes_law

theorem MemorySizes_holds : Rows.MemorySizesSaid :=
  OpenClaim.holds_of_wide 8 Try.f8 rfl rfl rfl rfl rfl rfl rfl ⟨rfl, rfl, rfl, rfl, rfl⟩ rfl rfl rfl rfl rfl (by kernel_rfl) Try.func8 (by kernel_rfl)
    (of_decide_eq_true (by kernel_rfl)) (by unfold Func.isWrapper; first | (rw [if_pos (by decide +kernel)]; kernel_rfl) | (rw [if_neg (by decide +kernel)]; exact ⟨rfl, rfl⟩))
    (fun os started H enc _ => MemorySizes_lifted os started H enc)

theorem MemoryBits_law : LawWalk 9 Try.f9 := by
  intro H enc W base args ds ps hval hA hlt hsz
  rw [Try.params9] at hA hval
  obtain ⟨v0, vs0, d0, ds0, p0, q0, hargs, rfl, rfl, h0, r0⟩ := trodAll_cons hA
  obtain ⟨v1, vs1, d1, ds1, p1, q1, rfl, rfl, rfl, h1, r1⟩ := trodAll_cons r0
  obtain ⟨rfl, rfl, rfl⟩ := trodAll_nil r1
  obtain rfl : args = #[v0, v1] := by cases args; simp_all
  obtain ⟨a0, rfl, rfl, rfl, w0⟩ := open_int Try.underlying35 (hval 0 35 v0 rfl rfl) h0
  obtain ⟨a1, rfl, rfl, rfl, w1⟩ := open_int Try.underlying35 (hval 1 35 v1 rfl rfl) h1
  exact MemoryBits_any W a0 a1

set_option maxRecDepth 100000 in
theorem MemoryBits_lifted (os : Os) (started : os.Started) (H : Type) (enc : TypeId × Value → H) :
    ReturnsInHanded {} Try.checked os 9 .any (Rows.memoryBitsSpec.pre6 enc Try.prog Try.f9 Rows.memoryBitsRow.domain false) (Rows.memoryBitsSpec.post enc Try.prog Try.f9 false true false false) :=
  law_lifted (enc := enc) (s := Rows.memoryBitsSpec) started (by kernel_rfl) Try.func9 rfl
      (ChangeSpec.witness6 (enc := enc) (C := Try.checked) false ⟨#[], #[.int .u64 0, .int .u64 0], []⟩ 8 (by kernel_rfl) (by kernel_rfl) (by kernel_rfl) (by kernel_rfl))
      rfl (readable_all (by kernel_rfl))
      (by intro ds h; rw [Try.params9] at h; match ds, h with | [x0, x1], _ => exact ⟨rfl, rfl, rfl⟩)
      MemoryBits_law

theorem MemoryBits_holds : Rows.MemoryBitsSaid :=
  OpenClaim.holds_of_wide 9 Try.f9 rfl rfl rfl rfl rfl rfl rfl ⟨rfl, rfl, rfl, rfl, rfl⟩ rfl rfl rfl rfl rfl (by kernel_rfl) Try.func9 (by kernel_rfl)
    (of_decide_eq_true (by kernel_rfl)) (by unfold Func.isWrapper; first | (rw [if_pos (by decide +kernel)]; kernel_rfl) | (rw [if_neg (by decide +kernel)]; exact ⟨rfl, rfl⟩))
    (fun os started H enc _ => MemoryBits_lifted os started H enc)

end Go.Proofs.Ytiijgnnejdcedaa
