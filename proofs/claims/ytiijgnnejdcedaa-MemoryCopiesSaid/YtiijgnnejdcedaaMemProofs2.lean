/- The statements MemoryPlays and MemoryCopies of chapter 2 (memory): each law returns true for every input. No condition. -/
import Derived.Test.YtiijgnnejdcedaaLaw
import Derived.Test.YtiijgnnejdcedaaMemPlay3
namespace Go.Proofs.Ytiijgnnejdcedaa
open Go.ChangeShapes Go.WideShapes Go.ChangeAt Go.RowKit
set_option linter.unusedVariables false

theorem MemoryPlays_law : LawWalk 10 Try.f10 := by
  intro H enc W base args ds ps hval hA hlt hsz
  rw [Try.params10] at hA hval
  obtain ⟨v0, vs0, d0, ds0, p0, q0, hargs, rfl, rfl, h0, r0⟩ := trodAll_cons hA
  obtain ⟨v1, vs1, d1, ds1, p1, q1, rfl, rfl, rfl, h1, r1⟩ := trodAll_cons r0
  obtain ⟨rfl, rfl, rfl⟩ := trodAll_nil r1
  obtain rfl : args = #[v0, v1] := by cases args; simp_all
  obtain ⟨a0, rfl, rfl, rfl, w0⟩ := open_int Try.underlying3 (hval 0 3 v0 rfl rfl) h0
  obtain ⟨ao1, cap1, rows1, rfl, c1, w1, l1, m1⟩ := open_sslice (ks := [.i64, .i64, .u64, .u64]) Try.underlying47 Try.underlying52 (by kernel_rfl) (by kernel_rfl) (by kernel_rfl) (by decide) (hval 1 47 v1 rfl rfl) h1
  exact MemoryPlays_any W a0 (wf_i64 w0) ao1 cap1 rows1 c1 (fun r hr => (w1 r hr).2)

set_option maxRecDepth 100000 in
theorem MemoryPlays_lifted (os : Os) (started : os.Started) (H : Type) (enc : TypeId × Value → H) :
    ReturnsInHanded {} Try.checked os 10 .any (Rows.memoryPlaysSpec.pre6 enc Try.prog Try.f10 Rows.memoryPlaysRow.domain false) (Rows.memoryPlaysSpec.post enc Try.prog Try.f10 false true false false) :=
  law_lifted (enc := enc) (s := Rows.memoryPlaysSpec) started (by kernel_rfl) Try.func10 rfl
      (ChangeSpec.witness6 (enc := enc) (C := Try.checked) false ⟨#[], #[.int .i64 0, .slice none 0 0], []⟩ 8 (by kernel_rfl) (by kernel_rfl) (by kernel_rfl) (by kernel_rfl))
      rfl (readable_all (by kernel_rfl))
      (by intro ds h; rw [Try.params10] at h; match ds, h with | [x0, x1], _ => exact ⟨rfl, rfl, rfl⟩)
      MemoryPlays_law

theorem MemoryPlays_holds : Rows.MemoryPlaysSaid :=
  OpenClaim.holds_of_wide 10 Try.f10 rfl rfl rfl rfl rfl rfl rfl ⟨rfl, rfl, rfl, rfl, rfl⟩ rfl rfl rfl rfl rfl (by kernel_rfl) Try.func10 (by kernel_rfl)
    (of_decide_eq_true (by kernel_rfl)) (by unfold Func.isWrapper; first | (rw [if_pos (by decide +kernel)]; kernel_rfl) | (rw [if_neg (by decide +kernel)]; exact ⟨rfl, rfl⟩))
    (fun os started H enc _ => MemoryPlays_lifted os started H enc)

theorem MemoryCopies_law : LawWalk 11 Try.f11 := by
  intro H enc W base args ds ps hval hA hlt hsz
  rw [Try.params11] at hA hval
  obtain ⟨v0, vs0, d0, ds0, p0, q0, hargs, rfl, rfl, h0, r0⟩ := trodAll_cons hA
  obtain ⟨v1, vs1, d1, ds1, p1, q1, rfl, rfl, rfl, h1, r1⟩ := trodAll_cons r0
  obtain ⟨v2, vs2, d2, ds2, p2, q2, rfl, rfl, rfl, h2, r2⟩ := trodAll_cons r1
  obtain ⟨rfl, rfl, rfl⟩ := trodAll_nil r2
  obtain rfl : args = #[v0, v1, v2] := by cases args; simp_all
  obtain ⟨a0, rfl, rfl, rfl, w0⟩ := open_int Try.underlying3 (hval 0 3 v0 rfl rfl) h0
  obtain ⟨ao1, cap1, rows1, rfl, c1, w1, l1, m1⟩ := open_sslice (ks := [.i64, .i64, .u64, .u64]) Try.underlying47 Try.underlying52 (by kernel_rfl) (by kernel_rfl) (by kernel_rfl) (by decide) (hval 1 47 v1 rfl rfl) h1
  obtain ⟨ao2, cap2, rows2, rfl, c2, w2, l2, m2⟩ := open_sslice (ks := [.i64, .i64, .u64, .u64]) Try.underlying47 Try.underlying52 (by kernel_rfl) (by kernel_rfl) (by kernel_rfl) (by decide) (hval 2 47 v2 rfl rfl) h2
  exact MemoryCopies_any W a0 ao1 cap1 rows1 c1 ao2 cap2 rows2 c2

set_option maxRecDepth 100000 in
theorem MemoryCopies_lifted (os : Os) (started : os.Started) (H : Type) (enc : TypeId × Value → H) :
    ReturnsInHanded {} Try.checked os 11 .any (Rows.memoryCopiesSpec.pre6 enc Try.prog Try.f11 Rows.memoryCopiesRow.domain false) (Rows.memoryCopiesSpec.post enc Try.prog Try.f11 false true false false) :=
  law_lifted (enc := enc) (s := Rows.memoryCopiesSpec) started (by kernel_rfl) Try.func11 rfl
      (ChangeSpec.witness6 (enc := enc) (C := Try.checked) false ⟨#[], #[.int .i64 0, .slice none 0 0, .slice none 0 0], []⟩ 8 (by kernel_rfl) (by kernel_rfl) (by kernel_rfl) (by kernel_rfl))
      rfl (readable_all (by kernel_rfl))
      (by intro ds h; rw [Try.params11] at h; match ds, h with | [x0, x1, x2], _ => exact ⟨rfl, rfl, rfl⟩)
      MemoryCopies_law

theorem MemoryCopies_holds : Rows.MemoryCopiesSaid :=
  OpenClaim.holds_of_wide 11 Try.f11 rfl rfl rfl rfl rfl rfl rfl ⟨rfl, rfl, rfl, rfl, rfl⟩ rfl rfl rfl rfl rfl (by kernel_rfl) Try.func11 (by kernel_rfl)
    (of_decide_eq_true (by kernel_rfl)) (by unfold Func.isWrapper; first | (rw [if_pos (by decide +kernel)]; kernel_rfl) | (rw [if_neg (by decide +kernel)]; exact ⟨rfl, rfl⟩))
    (fun os started H enc _ => MemoryCopies_lifted os started H enc)

end Go.Proofs.Ytiijgnnejdcedaa
