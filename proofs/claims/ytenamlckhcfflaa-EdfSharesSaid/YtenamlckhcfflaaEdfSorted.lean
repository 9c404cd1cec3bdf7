/- edf.Sorted and Valid, and those of the reference, walked. -/
import Derived.Test.YtenamlckhcfflaaEdfLaws
import Derived.Test.YtenamlckhcfflaaEdfPermP
import Derived.Test.YtenamlckhcfflaaSortU10
namespace Go.Proofs.Ytenamlckhcfflaa
open Go.RowKit Go.Sort
set_option linter.unusedVariables false

theorem rw_of_owns {w : World} {base g n cap : Nat} {T : TypeId} {xs : List Int} (h : w.ownsRow base T 1 (.slice (some ⟨g, 0, none⟩) n cap) n (xs.map (.int .u64))) : Rw w g xs.toArray ∧ xs.length = n ∧ base ≤ g ∧ n ≤ cap := by
  obtain ⟨hl, h | ⟨g', cap', cur, e, hb, hh, hn, hc, hs, ht⟩⟩ := h
  · exact absurd h.1 (by simp)
  · simp only [Nat.mul_one] at hl ht
    simp at e
    obtain ⟨rfl, rfl⟩ := e
    simp at hl
    refine ⟨⟨cur, T, hh, fun j hj => ?_⟩, hl, hb, hn⟩
    simp at hj
    have := take_get ht (j := j) (by simpa using hj)
    simp at this
    rw [this]
    simp [getElem!_pos, hj]

theorem sl_of_rw {w : World} {g n cap : Nat} {d : Array Int} (h : Rw w g d) (hn : d.size = n) (hc : n ≤ cap) : Sl w (.slice (some ⟨g, 0, none⟩) n cap) d.toList := by
  refine ⟨some ⟨g, 0, none⟩, cap, by rw [Array.length_toList, hn], fun hp => ⟨g, 0, rfl, fun j hj => ?_⟩, (fun e => by cases e), by rw [Array.length_toList, hn]; exact hc⟩
  simp at hj
  rw [Nat.zero_add, h.cell j hj]
  simp [getElem!_pos, hj]

/-! Sorting nothing. -/
theorem ins_nil (w : World) : Calls Try.prog 25 #[.slice none 0 0, .int .i64 0, .int .i64 0] w fun e w' => e = .returned (.tuple #[]) ∧ Only [] w w' := by
  go_enter Try.func25, Try.ntmps25
  go_wp2_with fail
  go_loopw [6] (fun i wr => i = .int .i64 1 ∧ Only [] w wr) (fun _ _ => 0)
  case atStart => exact ⟨rfl, Only.refl _ _⟩
  case round =>
    obtain ⟨rfl, hO⟩ := hrel
    go_wp2_with fail
    go_end0
    exact ⟨rfl, hO⟩
theorem pdq_nil (w : World) (l : Int) : Calls Try.prog 23 #[.slice none 0 0, .int .i64 0, .int .i64 0, .int .i64 l] w fun e w' => e = .returned (.tuple #[]) ∧ Only [] w w' := by
  go_enter Try.func23, Try.ntmps23
  go_wp2_with fail
  go_loopw [1, 2, 3, 8, 9] (fun va ve _ _ _ wr => va = .int .i64 0 ∧ ve = .int .i64 0 ∧ Only [] w wr) (fun _ _ _ _ _ _ => 0)
  case atStart => exact ⟨rfl, rfl, Only.refl _ _⟩
  case round =>
    obtain ⟨rfl, rfl, hO⟩ := hrel
    have HO := Lib.hid hO
    clear hO
    go_wp2_with fail
    refine (ins_nil _).mono ?_; rintro e w1 ⟨rfl, o1⟩
    have O1 := Lib.hid (HO.out.then0 o1)
    clear o1
    go_wp2_with fail
    exact bodyPost_ret (v := .tuple #[]) (by simp [results, Try.results23, go_sem]) rfl ⟨rfl, O1.out⟩
theorem sort_nil (w : World) : Calls Try.prog 22 #[.slice none 0 0] w fun e w' => e = .returned (.tuple #[]) ∧ Only [] w w' := by
  have L := Lib.hid (len_any 0 w (by omega) (by omega))
  go_enter Try.func22, Try.ntmps22
  go_wp2_with fail
  refine L.out.mono ?_; rintro e w' ⟨rfl, rfl⟩
  go_wp2_with fail
  refine (pdq_nil _ _).mono ?_; rintro e w2 ⟨rfl, o2⟩
  have O2 := Lib.hid o2
  clear o2
  go_wp2_with fail
  go_end0
  exact ⟨rfl, O2.out⟩

/-- What Sorted comes to: the sorted keys, in memory of its own. -/
def SortedEnd (w : World) (xs : List Int) (e : Ending) (w' : World) : Prop :=
  ∃ v, e = .returned v ∧ Only [] w w' ∧ Sl w' v (sortR xs) ∧ (v = .slice none 0 0 ∧ xs = [] ∨ ∃ g cap, v = .slice (some ⟨g, 0, none⟩) xs.length cap ∧ w.heap.size ≤ g ∧ ∃ d, Rw w' g d ∧ d.toList = sortR xs)

set_option maxRecDepth 100000 in
theorem sorted_sl (w : World) (v : Value) (xs : List Int) (h : Sl w v xs) (hn : xs.length ≤ 1000000) :
    Calls Try.prog 18 #[v] w (SortedEnd w xs) := by
  obtain ⟨ao, cap, rfl, h1, h2, h3⟩ := h
  have A := Lib.hid (cloneU_any w ao cap xs h1 h2 (by omega))
  obtain ⟨n, hnn⟩ : ∃ n, n = xs.length := ⟨_, rfl⟩
  rw [← hnn] at A hn ⊢
  have HN := Lib.hid hnn
  clear h1 h2 h3 hnn
  go_enter Try.func18, Try.ntmps18
  go_wp2_with fail
  refine A.out.mono ?_; rintro e w1 ⟨u, rfl, o1, hown⟩
  have O1 := Lib.hid o1
  clear o1 A
  by_cases hu : u = .slice none 0 0
  · subst hu
    have hx : xs = [] := by
      obtain ⟨hl, h | ⟨g', cap', cur, e, _⟩⟩ := hown
      · have h9 := h.2
        simp at hl
        exact List.length_eq_zero_iff.1 (by omega)
      · simp at e
    have HX := Lib.hid hx
    clear hown hx
    go_wp2_with fail
    refine (sort_nil _).mono ?_; rintro e w2 ⟨rfl, o2⟩
    have O2 := Lib.hid (O1.out.then0 o2)
    clear o2
    go_wp2_with fail
    go_ret
    exact ⟨_, rfl, O2.out, by rw [HX.out]; exact Sl.nil _, .inl ⟨rfl, HX.out⟩⟩
  · obtain ⟨g, cp, rfl, hg, hg2, hcp, hcp2⟩ := owns_shape hown hu
    obtain ⟨r1, r2, r3, r4⟩ := rw_of_owns hown
    have SO := Lib.hid (sort_any w1 g cp n xs.toArray r1 (by simpa using r2) (by omega))
    have HG := Lib.hid hg
    clear hown hu r1 r3
    go_wp2_with fail
    refine SO.out.mono ?_; rintro e w2 ⟨d', rfl, o2, q2, p2, s2⟩
    have O2 := Lib.hid (O1.out.trans o2 (by simpa using hg))
    have e1 : (xs.toArray).size = n := by simpa using r2
    have hs := sorted_list (d := xs.toArray) (d' := d') (by rw [e1]; exact p2) (by rw [e1]; exact s2)
    have hd : d'.size = n := p2.1.trans e1
    have S2 := Lib.hid (sl_of_rw q2 hd r4)
    have HS := Lib.hid hs
    have Q2 := Lib.hid q2
    clear o2 q2 p2 s2 SO hs hd e1
    go_wp2_with fail
    go_ret
    have e2 : d'.toList = sortR xs := HS.out
    exact ⟨_, rfl, O2.out, by rw [← e2]; exact S2.out, .inr ⟨g, cp, by rw [← HN.out]; rfl, HG.out, d', Q2.out, e2⟩⟩

theorem heap_of_sorted {l : List Int} (h : l.Pairwise (· ≤ ·)) : Heap l := by
  intro i h1 h2
  rw [List.pairwise_iff_getElem] at h
  have := h ((i - 1) / 2) i (by omega) h2 (by omega)
  simpa [List.getD, h2, show (i - 1) / 2 < l.length by omega] using this
end Go.Proofs.Ytenamlckhcfflaa
