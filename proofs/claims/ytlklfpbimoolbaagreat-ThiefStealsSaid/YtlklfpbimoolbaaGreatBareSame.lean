/- Two equal environments are found equal. -/
import Derived.Test.YtlklfpbimoolbaaGreatBareEnv
namespace Go.Proofs.YtlklfpbimoolbaaGreat
open Go.RowKit
set_option linter.unusedVariables false

theorem clockNow_any (w : World) (ck : Nat) (now : Int) (h : w.cell? ⟨ck, 0, none⟩ = some (.int .i64 now)) :
    Calls Tryz.prog 73 #[.pointer (some ⟨ck, 0, none⟩)] w fun e w' => e = .returned (.int .i64 now) ∧ w = w' := by
  go_enter Tryz.func73, Tryz.ntmps73
  go_wp2
  go_ret
  exact ⟨rfl, rfl⟩

theorem events_nil (w : World) :
    Calls Tryz.prog 71 #[.slice none 0 0, .slice none 0 0] w fun e w' => e = .returned (.bool true) ∧ Only [] w w' := by
  go_enter Tryz.func71, Tryz.ntmps71
  go_wp2_with fail
  go_loopw [5] (fun i wr => i = .int .i64 0 ∧ Only [] w wr) (fun _ _ => 0)
  case atStart => exact ⟨rfl, Only.refl _ _⟩
  case round =>
    obtain ⟨rfl, hP⟩ := hrel
    go_wp2_with fail
    go_ret
    exact ⟨rfl, hP⟩

theorem recs_nil28 (w : World) :
    Calls Tryz.prog 82 #[.slice none 0 0, .slice none 0 0] w fun e w' => e = .returned (.bool true) ∧ Only [] w w' := by
  go_enter Tryz.func82, Tryz.ntmps82
  go_wp2_with fail
  go_loopw [5] (fun i wr => i = .int .i64 0 ∧ Only [] w wr) (fun _ _ => 0)
  case atStart => exact ⟨rfl, Only.refl _ _⟩
  case round =>
    obtain ⟨rfl, hP⟩ := hrel
    go_wp2_with fail
    go_ret
    exact ⟨rfl, hP⟩

theorem recs_nil (w : World) :
    Calls Tryz.prog 72 #[.slice none 0 0, .slice none 0 0] w fun e w' => e = .returned (.bool true) ∧ Only [] w w' := by
  go_enter Tryz.func72, Tryz.ntmps72
  go_wp2_with fail
  refine (recs_nil28 _).mono ?_; rintro e w1 ⟨rfl, o1⟩
  have O1 := Lib.hid o1
  clear o1
  go_wp2_with fail
  go_ret
  exact ⟨rfl, O1.out⟩

/-- The cells that Same reads. -/
def SameF (w : World) (en m ck r : Nat) (a : Addr) (n cap : Nat) (s : MS) (now : Int) : Prop :=
  w.cell? ⟨en, 22, none⟩ = some (.pointer (some ⟨m, 0, none⟩)) ∧ w.cell? ⟨en, 23, none⟩ = some (.pointer (some ⟨ck, 0, none⟩)) ∧ w.cell? ⟨en, 24, none⟩ = some (.slice none 0 0) ∧ w.cell? ⟨en, 25, none⟩ = some (.slice none 0 0) ∧
  w.cell? ⟨ck, 0, none⟩ = some (.int .i64 now) ∧ w.cell? ⟨r, 11, none⟩ = some (.slice (some a) n cap) ∧ w.cell? ⟨r, 12, none⟩ = some (.int .i64 s.kind) ∧ w.cell? ⟨r, 13, none⟩ = some (.int .i64 s.cell) ∧ w.cell? ⟨r, 14, none⟩ = some (.int .u64 s.old) ∧ w.cell? ⟨r, 15, none⟩ = some (.int .u64 s.new) ∧ w.cell? ⟨r, 16, none⟩ = some (.int .i64 s.count) ∧
  w.cell? ⟨r, 17, none⟩ = some (.int .i64 now) ∧ w.cell? ⟨r, 19, none⟩ = some (.slice none 0 0) ∧ w.cell? ⟨r, 20, none⟩ = some (.slice none 0 0)
theorem SameF.keep {w w' : World} {en m ck r : Nat} {a : Addr} {n cap : Nat} {s : MS} {now : Int} (h : SameF w en m ck r a n cap s now) (o : Only [] w w') : SameF w' en m ck r a n cap s now := by
  obtain ⟨h1, h2, h3, h4, h5, h6, h7, h8, h9, h10, h11, h12, h13, h14⟩ := h
  exact ⟨o.keepCell h1 (by simp), o.keepCell h2 (by simp), o.keepCell h3 (by simp), o.keepCell h4 (by simp), o.keepCell h5 (by simp), o.keepCell h6 (by simp), o.keepCell h7 (by simp), o.keepCell h8 (by simp), o.keepCell h9 (by simp), o.keepCell h10 (by simp), o.keepCell h11 (by simp), o.keepCell h12 (by simp), o.keepCell h13 (by simp), o.keepCell h14 (by simp)⟩

set_option maxRecDepth 100000 in
set_option maxHeartbeats 2000000 in
theorem same_env (w : World) (en m bc ck r rc : Nat) (s : MS) (now : Int) (hE : EnvAt w en m bc ck s now) (hR : REnvAt w r rc s now) (hn : s.cells.length ≤ 4000000000000) :
    Calls Tryz.prog 41 #[.pointer (some ⟨en, 0, none⟩), .pointer (some ⟨r, 0, none⟩)] w fun e w' => e = .returned (.bool true) ∧ Only [] w w' := by
  obtain ⟨v, z1, z2, z6, z7⟩ := hR
  obtain ⟨a, cap, rfl, hc, hcap, hcap2⟩ := z2.cells
  have F : SameF w en m ck r a s.cells.length cap s now := by
    have k0 : w.cell? ⟨ck, 0, none⟩ = some (.int .i64 now) := by rw [cell_blk (show w.heap[ck]? = some (.cells _ _ _) from hE.c)]; rfl
    have c11 := cell_blk z1 11
    have c12 := cell_blk z1 12
    have c13 := cell_blk z1 13
    have c14 := cell_blk z1 14
    have c15 := cell_blk z1 15
    have c16 := cell_blk z1 16
    have c17 := cell_blk z1 17
    have c19 := cell_blk z1 19
    have c20 := cell_blk z1 20
    simp [cfg0, renvPost] at c11 c12 c13 c14 c15 c16 c17 c19 c20
    exact ⟨hE.mem, hE.clk, hE.recs, hE.evs, k0, c11, c12, c13, c14, c15, c16, c17, c19, c20⟩
  have HC := Lib.hid hc
  have HE := Lib.hid hE
  have HN := Lib.hid hn
  have HF := Lib.hid F
  have O0 := Lib.hid ((Only.refl [] w).drew)
  clear hc hE hn hcap hcap2 F z1 z2 z6 z7
  go_enter Tryz.func41, Tryz.ntmps41
  go_wp2_with fail
  simp only [List.append_eq, List.cons_append, List.nil_append]
  go_region_held3 (fun w' => w'.cell? ⟨en, 22, none⟩ = some (.pointer (some ⟨m, 0, none⟩)) ∧ w'.cell? ⟨en, 23, none⟩ = some (.pointer (some ⟨ck, 0, none⟩)) ∧ w'.cell? ⟨en, 24, none⟩ = some (.slice none 0 0) ∧ w'.cell? ⟨en, 25, none⟩ = some (.slice none 0 0) ∧
  w'.cell? ⟨ck, 0, none⟩ = some (.int .i64 now) ∧ w'.cell? ⟨r, 11, none⟩ = some (.slice (some a) s.cells.length cap) ∧ w'.cell? ⟨r, 12, none⟩ = some (.int .i64 s.kind) ∧ w'.cell? ⟨r, 13, none⟩ = some (.int .i64 s.cell) ∧ w'.cell? ⟨r, 14, none⟩ = some (.int .u64 s.old) ∧ w'.cell? ⟨r, 15, none⟩ = some (.int .u64 s.new) ∧ w'.cell? ⟨r, 16, none⟩ = some (.int .i64 s.count) ∧
  w'.cell? ⟨r, 17, none⟩ = some (.int .i64 now) ∧ w'.cell? ⟨r, 19, none⟩ = some (.slice none 0 0) ∧ w'.cell? ⟨r, 20, none⟩ = some (.slice none 0 0))
    (first | exact SameF.keep HF.out O0.out | exact SameF.keep HF.out O1.out | exact SameF.keep HF.out O2.out | exact SameF.keep HF.out O3.out | exact SameF.keep HF.out O4.out | exact SameF.keep HF.out O5.out)
    ((first
      | (go_at_call 69; refine (memCells_any _ m bc _ (HE.out.keep0 O0.out).mm HN.out).mono ?_; rintro e w1 ⟨v, bv, rfl, o1, hr, l1, l2⟩; obtain ⟨av, cv, rfl, hcv, hcap, hcap2⟩ := hr.cells; have O1 := Lib.hid (O0.out.then0 o1); have HV := Lib.hid hcv; clear o1 hr hcv)
      | (go_at_call 68; refine (refSame_any _ _ _ _ _ _ HV.out (HC.out.keep0 O1.out) HN.out).mono ?_; rintro e w2 ⟨rfl, o2⟩; have O2 := Lib.hid (O1.out.then0 o2); clear o2)
      | (go_at_call 43; refine (memCount_any _ m bc _ (HE.out.keep0 O2.out).mm).mono ?_; rintro e w3 ⟨rfl, rfl⟩)
      | (go_at_call 70; refine (memLast_any _ m bc _ (HE.out.keep0 O2.out).mm).mono ?_; rintro e w3 ⟨rfl, o3⟩; have O3 := Lib.hid (O2.out.then0 o3); clear o3)
      | (go_at_call 71; refine (events_nil _).mono ?_; rintro e w4 ⟨rfl, o4⟩; have O4 := Lib.hid (O3.out.then0 o4); clear o4)
      | (go_at_call 72; refine (recs_nil _).mono ?_; rintro e w5 ⟨rfl, o5⟩; have O5 := Lib.hid (O4.out.then0 o5); clear o5)
      | (go_at_call 73; refine (clockNow_any _ ck now (HF.out.keep O5.out).2.2.2.2.1).mono ?_; rintro e w6 ⟨rfl, rfl⟩)))
  go_wp2_with fail
  go_ret
  exact ⟨rfl, O5.out⟩
end Go.Proofs.YtlklfpbimoolbaaGreat
