/- Lists of operations; two equal ones are the same, walked. -/
import Derived.Test.YtfhkhknnoepfeaaHistLin1
namespace Go.Proofs.Ytfhkhknnoepfeaa
open Go.RowKit
set_option linter.unusedVariables false

instance : Inhabited HOp := ⟨⟨0, 0, 0, 0, 0, 0⟩⟩
def HOp.zero : HOp := ⟨0, 0, 0, 0, 0, 0⟩

/-- Operation o lies at a place. -/
def OpAt (w : World) (b p : Nat) (o : HOp) : Prop :=
  w.cell? ⟨b, p, none⟩ = some (.int .i64 o.kind) ∧ w.cell? ⟨b, p + 1, none⟩ = some (.int .i64 o.mach) ∧ w.cell? ⟨b, p + 2, none⟩ = some (.int .i64 o.frm) ∧
  w.cell? ⟨b, p + 3, none⟩ = some (.int .i64 o.to) ∧ w.cell? ⟨b, p + 4, none⟩ = some (.int .i64 o.code) ∧ w.cell? ⟨b, p + 5, none⟩ = some (.int .i64 o.value)
theorem OpAt.keep {w w' : World} {b p : Nat} {o : HOp} {S : List Nat} (h : OpAt w b p o) (ho : Only S w w') (hb : b ∉ S) : OpAt w' b p o := by
  obtain ⟨h1, h2, h3, h4, h5, h6⟩ := h
  exact ⟨ho.keepCell h1 hb, ho.keepCell h2 hb, ho.keepCell h3 hb, ho.keepCell h4 hb, ho.keepCell h5 hb, ho.keepCell h6 hb⟩

/-- v is a slice of operations. -/
def OL (w : World) (v : Value) (l : List HOp) : Prop :=
  ∃ ao cap, v = .slice ao l.length cap ∧ l.length ≤ cap ∧ (0 < l.length → ∃ b off, ao = some ⟨b, off, none⟩ ∧ ∀ i, i < l.length → OpAt w b (off + i * 6) (l.getD i HOp.zero))
theorem OL.keep {w w' : World} {v : Value} {l : List HOp} (h : OL w v l) (o : Only [] w w') : OL w' v l := by
  obtain ⟨ao, cap, rfl, hc, h⟩ := h
  refine ⟨ao, cap, rfl, hc, fun hp => ?_⟩
  obtain ⟨b, off, e, hh⟩ := h hp
  exact ⟨b, off, e, fun i hi => (hh i hi).keep o (by simp)⟩

set_option maxRecDepth 100000 in
theorem refSameOps_any (w : World) (v1 v2 : Value) (l : List HOp) (h1 : OL w v1 l) (h2 : OL w v2 l) (hn : l.length ≤ 4000000000000) :
    Calls Try.prog 15 #[v1, v2] w fun e w' => e = .returned (.bool true) ∧ Only [] w w' := by
  obtain ⟨ao, c1, rfl, _, g1⟩ := h1
  obtain ⟨bo, c2, rfl, _, g2⟩ := h2
  obtain ⟨n, hnn⟩ : ∃ n, n = l.length := ⟨_, rfl⟩
  rw [← hnn] at hn g1 g2 ⊢
  have G1 := Lib.hid g1
  have G2 := Lib.hid g2
  clear g1 g2 hnn
  go_enter Try.func15, Try.ntmps15
  go_wp2_with fail
  go_loopw [5] (fun i wr => ∃ k : Nat, k ≤ n ∧ i = .int .i64 k ∧ Only [] w wr) (fun i _ => n - (intOf i).toNat)
  case atStart => exact ⟨0, Nat.zero_le _, rfl, Only.refl _ _⟩
  case round =>
    obtain ⟨k, hk, rfl, hP⟩ := hrel
    have P := Lib.hid hP
    by_cases hlt : k < n
    · obtain ⟨b, off, rfl, hc⟩ := G1.out (by omega)
      obtain ⟨b', off', rfl, hd⟩ := G2.out (by omega)
      obtain ⟨o, ho⟩ : ∃ o, o = l.getD k HOp.zero := ⟨_, rfl⟩
      have e1 := fun q => (hc k hlt).keep (P.out.drewN q) (by simp)
      have e2 := fun q => (hd k hlt).keep (P.out.drewN q) (by simp)
      have e3 := (hc k hlt).keep P.out (by simp)
      have e4 := (hd k hlt).keep P.out (by simp)
      rw [← ho] at e1 e2 e3 e4
      unfold OpAt at e1 e2 e3 e4
      obtain ⟨k0, m0, f0, t0, d0, v0⟩ := o
      clear hc hd ho hP
      go_wp2_with fail
      go_quiet (fail)
      go_wp2_with fail
      go_roundw
      case rel => exact ⟨k + 1, by omega, by go_num, P.out.drewN _⟩
      case measure => simp [intOf] <;> omega
    · obtain rfl : k = n := by omega
      clear hP
      go_wp2_with fail
      go_ret
      exact ⟨rfl, P.out⟩
end Go.Proofs.Ytfhkhknnoepfeaa
