/- BitmapSets, walked (printed by gen_matchbit.py). -/
import Derived.Test.YtlklfpbimoolbaaGreatMatchLaw
import Derived.Test.YtlklfpbimoolbaaGreatBitAwake
namespace Go.Proofs.YtlklfpbimoolbaaGreat
open Go.RowKit
set_option linter.unusedVariables false

set_option maxRecDepth 100000 in
set_option maxHeartbeats 4000000 in
theorem BitmapSets_any (w : World) (ao : Option Addr) (cap : Nat) (xs : List Int) (hx : CellsAt w ao (xs.map (.int .u64))) (wx : ∀ z ∈ xs, (Lit.int .u64 z).wf = true) (lx : xs.length ≤ cap) (mx : cap ≤ maxLen) (cell : Int) (wc : (Lit.int .i64 cell).wf = true) (bit : Int) (wb : (Lit.int .i64 bit).wf = true) (near : Bool) :
    Calls Tryz.prog 8 #[.slice ao xs.length cap, .int .i64 cell, .int .i64 bit, .bool near] w fun e w' => e = .returned (.bool true) ∧ Only [] w w' := by
  unfold maxLen at mx
  have SOK : Hid (bareMS xs).ok := Lib.hid (by intro z hz'; rw [bareMS_cells] at hz'; exact wf_u64 (wx z hz'))
  have HX := Lib.hid hx
  obtain ⟨len, hlen⟩ : ∃ len, len = xs.length := ⟨_, rfl⟩
  have HXL := Lib.hid hlen
  rw [← hlen] at lx ⊢
  clear hx wx hlen wc wb
  by_cases h1 : len ≤ 40
  · have hl40 : ¬ (40 : Int) < len := by omega
    have O0 := Lib.hid (Only.refl [] w)
    cases near with
    | false =>
      go_enter Tryz.func8, Tryz.ntmps8
      have BR := fun w' (o : Only [] w w') => Lib.hid (bare_any w' ao cap len xs (HX.out.keep0 o) HXL.out (by omega))
      go_wp2_with fail
      refine (BR _ O0.out).out.mono ?_; rintro e w3 ⟨en, m, bc, ck, r, rc, rfl, o3, b3, ⟨l1, l2, l3, l4, l5, l6⟩, l7, l8, l9, l10, l11, l12⟩
      have O3 := Lib.hid (O0.out.then0 o3)
      have B3 := Lib.hid b3
      have s0 := O0.out.size
      have s3 := o3.size
      have SML : Hid ((bareMS xs).count ≤ 1000 ∧ (bareMS xs).cells.length ≤ 1000) := Lib.hid (by rw [bareMS_count, bareMS_cells, ← HXL.out]; omega)
      clear o3 b3 BR
      go_wp2_with fail
      refine (awake12_any _).mono ?_; rintro e wA ⟨rfl, oA⟩
      have OA := Lib.hid oA
      clear oA
      go_wp2_with fail
      refine (set_new _ (cell) (bit)).mono ?_; rintro e wP ⟨p, rfl, oP, hP, lp1, lp2⟩
      have OP := Lib.hid (OA.out.then0 oP)
      have HP := Lib.hid (And.intro hP (And.intro lp1 lp2))
      clear oP hP lp1 lp2
      go_wp2_with fail
      refine (make_any _ { newSet (cell) (bit) with line := 0 } (by simp [newSet]) rfl rfl).mono ?_; rintro e wM ⟨y, fb, rfl, oM, hM, ly, lf, hyf, ly2, lf2⟩
      have OM := Lib.hid (OP.out.then0 oM)
      have gp : w3.heap.size ≤ p := by have := HP.out.2.1; have := OA.out.size; omega
      have gy : w3.heap.size ≤ y := by have := OP.out.size; omega
      have gf : w3.heap.size ≤ fb := by have := OP.out.size; omega
      have I := matIn_new (k := newSet (cell) (bit)) B3.out l9 l12 OP.out HP.out.1 gp HP.out.2.2 oM hM ly lf hyf ly2 lf2
      have MT := Lib.hid (match_any _ en m bc ck r rc p y fb (newSet (cell) (bit)) (bareMS xs) none 0 [] 5 (CellsAt.nil _ _) (by simp) (fun _ e => by cases e) (by simp) (by omega) (by simp [newSet]) rfl (newSet_ok _ _) ⟨rfl, rfl⟩ SOK.out SML.out.1 SML.out.2 I.1 I.2.1 I.2.2)
      simp only [List.length_nil] at MT
      have BS : ∀ t ∈ [p, m, bc, ck, y, fb, r, rc], t ∈ ([] : List Nat) ∨ w.heap.size ≤ t := by
        intro t ht
        simp at ht
        right
        rcases ht with rfl | rfl | rfl | rfl | rfl | rfl | rfl | rfl <;> omega
      have BSH := Lib.hid BS
      clear I oM hM ly lf hyf ly2 lf2 l1 l2 l3 l4 l5 l6 l7 l8 l9 l10 l11 l12 gp gy gf s0 s3 BS
      go_wp2_with fail
      refine MT.out.mono ?_; rintro e wF ⟨rfl, oF⟩
      have OF := Lib.hid ((O3.out.then0 OM.out).trans oF BSH.out)
      clear oF
      go_wp2_with fail
      go_ret
      exact ⟨rfl, OF.out⟩
    | true =>
      go_enter Tryz.func8, Tryz.ntmps8
      go_wp2_with fail
      refine (num1_any _ _ cell _ 3 (0, 0) (blk_alloc_new _ _) (by omega) (by omega)).mono ?_; rintro e wn1 ⟨x1, rfl, h1, on1⟩
      have ON1 := Lib.hid ((O0.out.alloc (.cells #[.int .i64 cell] 3)).then0 on1)
      clear on1
      go_wp2_with fail
      refine (num1_any _ _ bit _ 3 (0, 0) (blk_alloc_new _ _) (by omega) (by omega)).mono ?_; rintro e wn2 ⟨x2, rfl, h2, on2⟩
      have ON := Lib.hid ((ON1.out.alloc (.cells #[.int .i64 bit] 3)).then0 on2)
      have e1 : IntKind.i64.wrap (x1 - 1) = x1 - 1 := IntWalk.i64_in _ (by omega)
      have e2 : IntKind.i64.wrap (x2 - 1) = x2 - 1 := IntWalk.i64_in _ (by omega)
      clear on2 ON1
      have BR := fun w' (o : Only [] w w') => Lib.hid (bare_any w' ao cap len xs (HX.out.keep0 o) HXL.out (by omega))
      go_wp2_with fail
      refine (BR _ ON.out).out.mono ?_; rintro e w3 ⟨en, m, bc, ck, r, rc, rfl, o3, b3, ⟨l1, l2, l3, l4, l5, l6⟩, l7, l8, l9, l10, l11, l12⟩
      have O3 := Lib.hid (ON.out.then0 o3)
      have B3 := Lib.hid b3
      have s0 := ON.out.size
      have s3 := o3.size
      have SML : Hid ((bareMS xs).count ≤ 1000 ∧ (bareMS xs).cells.length ≤ 1000) := Lib.hid (by rw [bareMS_count, bareMS_cells, ← HXL.out]; omega)
      clear o3 b3 BR
      go_wp2_with fail
      refine (awake12_any _).mono ?_; rintro e wA ⟨rfl, oA⟩
      have OA := Lib.hid oA
      clear oA
      go_wp2_with fail
      refine (set_new _ (x1 - 1) (x2 - 1)).mono ?_; rintro e wP ⟨p, rfl, oP, hP, lp1, lp2⟩
      have OP := Lib.hid (OA.out.then0 oP)
      have HP := Lib.hid (And.intro hP (And.intro lp1 lp2))
      clear oP hP lp1 lp2
      go_wp2_with fail
      refine (make_any _ { newSet (x1 - 1) (x2 - 1) with line := 0 } (by simp [newSet]) rfl rfl).mono ?_; rintro e wM ⟨y, fb, rfl, oM, hM, ly, lf, hyf, ly2, lf2⟩
      have OM := Lib.hid (OP.out.then0 oM)
      have gp : w3.heap.size ≤ p := by have := HP.out.2.1; have := OA.out.size; omega
      have gy : w3.heap.size ≤ y := by have := OP.out.size; omega
      have gf : w3.heap.size ≤ fb := by have := OP.out.size; omega
      have I := matIn_new (k := newSet (x1 - 1) (x2 - 1)) B3.out l9 l12 OP.out HP.out.1 gp HP.out.2.2 oM hM ly lf hyf ly2 lf2
      have MT := Lib.hid (match_any _ en m bc ck r rc p y fb (newSet (x1 - 1) (x2 - 1)) (bareMS xs) none 0 [] 5 (CellsAt.nil _ _) (by simp) (fun _ e => by cases e) (by simp) (by omega) (by simp [newSet]) rfl (newSet_ok _ _) ⟨rfl, rfl⟩ SOK.out SML.out.1 SML.out.2 I.1 I.2.1 I.2.2)
      simp only [List.length_nil] at MT
      have BS : ∀ t ∈ [p, m, bc, ck, y, fb, r, rc], t ∈ ([] : List Nat) ∨ w.heap.size ≤ t := by
        intro t ht
        simp at ht
        right
        rcases ht with rfl | rfl | rfl | rfl | rfl | rfl | rfl | rfl <;> omega
      have BSH := Lib.hid BS
      clear I oM hM ly lf hyf ly2 lf2 l1 l2 l3 l4 l5 l6 l7 l8 l9 l10 l11 l12 gp gy gf s0 s3 BS
      go_wp2_with fail
      refine MT.out.mono ?_; rintro e wF ⟨rfl, oF⟩
      have OF := Lib.hid ((O3.out.then0 OM.out).trans oF BSH.out)
      clear oF
      go_wp2_with fail
      go_ret
      exact ⟨rfl, OF.out⟩
  · have hl40 : (40 : Int) < len := by omega
    go_enter Tryz.func8, Tryz.ntmps8
    go_wp2_with fail
    go_ret
    exact ⟨rfl, Only.refl _ _⟩
end Go.Proofs.YtlklfpbimoolbaaGreat
