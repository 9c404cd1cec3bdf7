/- Between two steps: a cell is changed in both environments, the clock ticks. -/
import Derived.Test.YtlklfpbimoolbaaGreatBare
import Derived.Test.YtlklfpbimoolbaaGreatRefEnv
import Derived.Test.YtlklfpbimoolbaaGreatDqDeque
namespace Go.Proofs.YtlklfpbimoolbaaGreat
open Go.RowKit
set_option linter.unusedVariables false

theorem rpeek_any (w : World) (r rc : Nat) (s : MS) (now c : Int) (h : REnvAt w r rc s now) :
    Calls Tryz.prog 77 #[.pointer (some ⟨r, 11, none⟩), .int .i64 c] w fun e w' => e = .returned (.int .u64 (s.at c)) ∧ w = w' := by
  by_cases hc : 0 ≤ c ∧ c < s.cells.length
  · rw [at_in hc]
    exact refPeek_in w _ r 11 rc cfg0 _ s c c.toNat (by omega) _ h cfg0_len (by omega) rfl
  · rw [at_out hc]
    exact refPeek_out w _ r 11 rc cfg0 _ s c h cfg0_len (by omega)

/-- What a change between two steps comes to. -/
def NoisePost (en m bc ck r rc : Nat) (s : MS) (now : Int) (w w' : World) : Prop :=
  ∃ s', Only [m, bc, r, rc] w w' ∧ Both w' en m bc ck r rc s' now ∧ s'.ok ∧ s'.cells.length = s.cells.length ∧ s'.count ≤ s.count + 1

theorem noise_of {en m bc ck r rc : Nat} {s : MS} {now a x : Int} {w w1 w2 : World} (hB : Both w en m bc ck r rc s now) (hs : s.ok) (hx : 0 ≤ x ∧ x ≤ 18446744073709551615)
    (o1 : Only [r, rc] w w1) (e1 : REnvAt w1 r rc (s.put 2 a x) now) (o2 : Only [m, bc] w1 w2) (m2 : MemAt w2 m bc (s.put 2 a x)) : NoisePost en m bc ck r rc s now w w2 := by
  obtain ⟨ee, rr, ⟨a1, a2⟩, ⟨b1, b2⟩, ⟨c1, c2⟩, ⟨d1, d2⟩⟩ := hB
  have E1 := ee.keep o1 (by simp; omega) (by simp; omega) (by simp; omega) (by simp; omega)
  refine ⟨s.put 2 a x, (o1.mono (T := [m, bc, r, rc]) (by simp)).trans o2 (by simp), ⟨⟨o2.keep E1.e (by have := ee.em; have := ee.ec; simp; omega), o2.keep E1.c (by have := ee.km; have := ee.kc; simp; omega), m2, ee.em, ee.ec, ee.ek, ee.km, ee.kc⟩, e1.keep o2 (by simp; omega) (by simp; omega), ⟨a1, a2⟩, ⟨b1, b2⟩, ⟨c1, c2⟩, ⟨d1, d2⟩⟩, MS.put_ok hs hx, MS.put_len _ _ _ _, (MS.put_count _ _ _ _).2⟩

set_option maxRecDepth 100000 in
set_option maxHeartbeats 2000000 in
theorem disturb_any (w : World) (en m bc ck r rc : Nat) (s : MS) (now c v : Int) (hB : Both w en m bc ck r rc s now) (hs : s.ok) (hn : s.count ≤ 1000000) (hl : s.cells.length ≤ 1000000) :
    Calls Tryz.prog 45 #[.pointer (some ⟨en, 0, none⟩), .pointer (some ⟨r, 0, none⟩), .int .i64 c, .int .i64 v] w fun e w' => e = .returned (.tuple #[]) ∧ NoisePost en m bc ck r rc s now w w' := by
  obtain ⟨a, cap, c11, _, _⟩ := hB.rr.slice
  have e22 := hB.ee.mem
  have B := Lib.hid hB
  have HS := Lib.hid hs
  have HN := Lib.hid hn
  obtain ⟨len, hlen⟩ : ∃ len, len = s.cells.length := ⟨_, rfl⟩
  rw [← hlen] at c11 hl
  have HL := Lib.hid hlen
  clear hB hs hn hlen
  by_cases h0 : len = 0
  · subst h0
    go_enter Tryz.func45, Tryz.ntmps45
    go_wp2_with fail
    exact bodyPost_ret (v := .tuple #[]) (by simp [results, Tryz.results45, go_sem]) rfl ⟨rfl, s, Only.refl _ _, B.out, HS.out, rfl, by omega⟩
  · have hl0 : ((len : Int) == 0) = false := by simp; omega
    have D := fun n d w h => Lib.hid (refDraw_any n d w h)
    go_enter Tryz.func45, Tryz.ntmps45
    go_wp2_with fail
    refine (D len c _ (by omega)).out.mono ?_; rintro e w1 ⟨rfl, rfl⟩
    obtain ⟨ad, had⟩ : ∃ ad, ad = drw c len := ⟨_, rfl⟩
    rw [← had]
    clear had
    go_wp2_with fail
    refine (D 6 v _ (by omega)).out.mono ?_; rintro e w1 ⟨rfl, rfl⟩
    obtain ⟨x0, hx0⟩ : ∃ x0, x0 = drw v 6 := ⟨_, rfl⟩
    rw [← hx0]
    clear hx0
    go_wp2_with fail
    refine (D 4 _ _ (by omega)).out.mono ?_; rintro e w1 ⟨rfl, rfl⟩
    obtain ⟨x1, hx1⟩ : ∃ x1, x1 = drw (wrap64 (v.tdiv 6)) 4 := ⟨_, rfl⟩
    rw [← hx1]
    clear hx1
    have PK := fun w h => Lib.hid (rpeek_any w r rc s now ad h)
    obtain ⟨y, hy⟩ : ∃ y, y = s.at ad := ⟨_, rfl⟩
    rw [← hy] at PK
    clear hy
    go_wp2_with (first
      | (go_at_call 77; refine (PK _ B.out.rr).out.mono ?_; rintro e w1 ⟨rfl, rfl⟩))
    all_goals
      refine (racc2_any w r rc s now ad _ B.out.rr (by have := HN.out; omega)).mono ?_; rintro e w1 ⟨rfl, o1, e1⟩
      have E1 := B.out.ee.keep o1 (by have := B.out.d1; simp; omega) (by have := B.out.d2; simp; omega) (by have := B.out.d3; simp; omega) (by have := B.out.d4; simp; omega)
      have e22 := E1.mem
      have O1 := Lib.hid o1
      have R1 := Lib.hid e1
      have M1 := Lib.hid E1.mm
      clear o1 e1 E1
      go_wp2_with fail
      refine (st_any w1 m bc s ad _ M1.out (by have := HN.out; omega)).mono ?_; rintro e w2 ⟨rfl, o2, m2⟩
      have O2 := Lib.hid o2
      have M2 := Lib.hid m2
      clear o2 m2
      go_wp2_with fail
      go_end0
      exact ⟨rfl, noise_of B.out HS.out (wrap_u_bd _) O1.out R1.out O2.out M2.out⟩
end Go.Proofs.YtlklfpbimoolbaaGreat
