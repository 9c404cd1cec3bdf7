/- What Pick and Round of package workstealkeep compute. -/
import Derived.Test.YtfhmphbfngdkeaaScriptRound
namespace Go.Proofs.Ytfhmphbfngdkeaa
open Go.RowKit
set_option linter.unusedVariables false

theorem EnCap.some {w : World} {v : Value} {l : List E} (h : EnCap w v l) (hp : 0 < l.length) : ∃ g cap, v = .slice (some ⟨g, 0, none⟩) l.length cap ∧ CellsAt w (some ⟨g, 0, none⟩) (flat l) ∧ l.length ≤ cap ∧ cap ≤ 9223372036854775807 := by
  rcases h with ⟨_, rfl⟩ | h
  · simp at hp
  · exact h

theorem EnCap.cap {w : World} {v : Value} {l : List E} (h : EnCap w v l) : ∀ ao n cap, v = .slice ao n cap → cap ≤ 9223372036854775807 := by
  intro ao n cap e
  rcases h with ⟨rfl, _⟩ | ⟨g, c, rfl, _, _, h⟩
  · simp at e; omega
  · simp at e; omega

/-- What the list has while Round makes it: n entries, the picks of the first k machines, and the tick if it is there. -/
def Has (k n : Nat) (tick : Bool) (L : List E) : Prop := L.length = n ∧ (∀ j : Nat, j < k → ((0 : Int), (j : Int)) ∈ L) ∧ (tick = true → ((1 : Int), (0 : Int)) ∈ L)

theorem mem_ins {L : List E} {e x : E} {t : Nat} (h : x ∈ L) : x ∈ L.take t ++ [e] ++ L.drop t := by
  have : x ∈ L.take t ++ L.drop t := by rw [List.take_append_drop]; exact h
  simp only [List.mem_append] at this ⊢
  rcases this with h | h
  · exact .inl (.inl h)
  · exact .inr h
theorem mem_ins_self {L : List E} {e : E} {t : Nat} : e ∈ L.take t ++ [e] ++ L.drop t := by simp
theorem len_ins {L : List E} {e : E} {t : Nat} (h : t ≤ L.length) : (L.take t ++ [e] ++ L.drop t).length = L.length + 1 := by
  simp; omega

theorem Has.more {k n : Nat} {b : Bool} {L : List E} (h : Has k n b L) (e : E) (t : Nat) (ht : t ≤ n) : Has k (n + 1) b (L.take t ++ [e] ++ L.drop t) :=
  ⟨by rw [len_ins (by rw [h.1]; exact ht), h.1], fun j hj => mem_ins (h.2.1 j hj), fun hb => mem_ins (h.2.2 hb)⟩
theorem Has.pick {k n : Nat} {b : Bool} {L : List E} (h : Has k n b L) (t : Nat) (ht : t ≤ n) : Has (k + 1) (n + 1) b (L.take t ++ [((0 : Int), (k : Int))] ++ L.drop t) := by
  have h2 := h.more ((0 : Int), (k : Int)) t ht
  refine ⟨h2.1, fun j hj => ?_, h2.2.2⟩
  rcases Nat.lt_or_ge j k with h1 | h1
  · exact h2.2.1 j h1
  · obtain rfl : j = k := by omega
    exact mem_ins_self
theorem Has.tick {k n : Nat} {b : Bool} {L : List E} (h : Has k n b L) (t : Nat) (ht : t ≤ n) : Has k (n + 1) true (L.take t ++ [((1 : Int), (0 : Int))] ++ L.drop t) := by
  have h2 := h.more ((1 : Int), (0 : Int)) t ht
  exact ⟨h2.1, h2.2.1, fun _ => mem_ins_self⟩

theorem Has.compl {m n : Nat} {L : List E} (hm : 1 ≤ m) (h : Has m n true L) : complB m L = true := by
  unfold complB tickB
  rw [Bool.and_eq_true]
  refine ⟨List.any_eq_true.2 ⟨_, h.2.2 rfl, by simp⟩, decide_eq_true fun j hj => ?_⟩
  unfold hasB
  refine List.any_eq_true.2 ⟨_, h.2.1 j hj, decide_eq_true ?_⟩
  unfold machI
  rw [if_pos ⟨rfl, by omega⟩]
  exact Int.emod_eq_of_lt (by simp) (by simpa using hj)

set_option maxHeartbeats 1600000 in
set_option maxRecDepth 100000 in
theorem round_any (w : World) (v : Value) (zs : List Int) (at' m : Nat) (h : Ns w v zs) (hl : zs.length ≤ 1000000) (hat : at' ≤ 1000) (hm : 1 ≤ m) (hm5 : m ≤ 5) :
    Calls Try.prog 17 #[v, .int .i64 at', .int .i64 m] w fun e w' => ∃ v' L, e = .returned v' ∧ Only [] w w' ∧ EnCap w' v' L ∧ complB m L = true ∧ m + 1 ≤ L.length ∧ L.length ≤ m + 3 := by
  have H := Lib.hid h
  have HL := Lib.hid hl
  have HA := Lib.hid hat
  clear h hl
  go_enter Try.func17, Try.ntmps17
  go_wp2_with fail
  go_loopw [7, 8] (fun l i wr => ∃ (k : Nat) (L : List E), k ≤ m ∧ i = .int .i64 k ∧ Has k k false L ∧ EnCap wr l L ∧ Only [] w wr) (fun _ i _ => m - (intOf i).toNat)
  case atStart => exact ⟨0, [], Nat.zero_le _, rfl, ⟨rfl, fun j hj => absurd hj (by omega), fun h => by simp at h⟩, EnCap.nil _, Only.refl _ _⟩
  case round =>
    obtain ⟨k, L, hk, rfl, h1, h2, h3⟩ := hrel
    have H1 := Lib.hid h1
    have H2 := Lib.hid h2
    have H3 := Lib.hid h3
    clear h1 h2 h3
    by_cases hlt : k < m
    · go_wp2_with fail
      refine (pick_any _ _).mono ?_; rintro e w1 ⟨rfl, o1⟩
      have O1 := Lib.hid (H3.out.then0 o1)
      have E1 := Lib.hid (H2.out.keep o1)
      have N1 := Lib.hid (H.out.keep O1.out)
      clear o1
      go_wp2_with fail
      rw [show (at' : Int) + k = ((at' + k : Nat) : Int) by simp, show (k : Int) + 1 = ((k + 1 : Nat) : Int) by simp]
      refine (number_any _ _ zs (at' + k) _ N1.out (by omega) HL.out (by omega)).mono ?_; rintro e w2 ⟨r, rfl, hr0, hr1, o2⟩
      have hr2 := hr1 (by omega)
      obtain ⟨t, rfl⟩ : ∃ t : Nat, r = t := ⟨r.toNat, by omega⟩
      have ht : t ≤ k := by omega
      have HT := Lib.hid ht
      have O2 := Lib.hid (O1.out.then0 o2)
      have E2 := Lib.hid (E1.out.keep o2)
      clear o2 hr0 hr1 hr2 ht O1 E1
      go_wp2_with fail
      refine (insert_any _ _ L _ _ t E2.out (by rw [H1.out.1]; exact HT.out) (by rw [H1.out.1]; omega)).mono ?_; rintro e w3 ⟨v3, rfl, o3, e3⟩
      have O3 := Lib.hid (O2.out.then0 o3)
      have E3 := Lib.hid e3
      clear o3 e3 O2 E2
      go_wp2_with fail
      go_roundw
      case rel => exact ⟨k + 1, _, by omega, by go_num, H1.out.pick t HT.out, E3.out, O3.out⟩
      case measure => simp [intOf]; omega
    · obtain rfl : k = m := by omega
      clear hlt
      go_wp2_with fail
      rw [show (at' : Int) + k = ((at' + k : Nat) : Int) by simp, show (k : Int) + 1 = ((k + 1 : Nat) : Int) by simp]
      refine (number_any _ _ zs (at' + k) _ (H.out.keep H3.out) (by omega) HL.out (by omega)).mono ?_; rintro e w2 ⟨r, rfl, hr0, hr1, o2⟩
      have hr2 := hr1 (by omega)
      obtain ⟨t, rfl⟩ : ∃ t : Nat, r = t := ⟨r.toNat, by omega⟩
      have ht : t ≤ k := by omega
      have HT := Lib.hid ht
      have O2 := Lib.hid (H3.out.then0 o2)
      have E2 := Lib.hid (H2.out.keep o2)
      clear o2 hr0 hr1 hr2 ht H2 H3
      go_wp2_with fail
      refine (insert_any _ _ L _ _ t E2.out (by rw [H1.out.1]; exact HT.out) (by rw [H1.out.1]; omega)).mono ?_; rintro e w3 ⟨v3, rfl, o3, e3⟩
      have O3 := Lib.hid (O2.out.then0 o3)
      have E3 := Lib.hid e3
      have T3 := Lib.hid (H1.out.tick t HT.out)
      have N3 := Lib.hid (H.out.keep O3.out)
      clear o3 e3 O2 E2 H1
      generalize L.take t ++ [((1 : Int), (0 : Int))] ++ L.drop t = L1 at *
      go_wp2_with fail
      rw [show (at' : Int) + k + 1 = ((at' + k + 1 : Nat) : Int) by simp]
      refine (number_any _ _ zs (at' + k + 1) _ N3.out (by omega) HL.out (by omega)).mono ?_; rintro e w4 ⟨r, rfl, hr0, hr1, o4⟩
      have hr2 := hr1 (by omega)
      obtain ⟨t2, rfl⟩ : ∃ t : Nat, r = t := ⟨r.toNat, by omega⟩
      have O4 := Lib.hid (O3.out.then0 o4)
      have E4 := Lib.hid (E3.out.keep o4)
      have HT2 : Hid (t2 ≤ 2) := Lib.hid (by omega)
      clear hr0 hr1 hr2 o4 O3 E3 N3
      go_wp2_with fail
      go_loopw [7, 9] (fun l i wr => ∃ (c n : Nat) (L : List E), c ≤ 2 ∧ k + 1 ≤ n ∧ n + c ≤ k + 3 ∧ i = .int .i64 c ∧ Has k n true L ∧ EnCap wr l L ∧ Only [] w wr) (fun _ i _ => (intOf i).toNat)
      case atStart => exact ⟨t2, k + 1, L1, HT2.out, Nat.le_refl _, by have := HT2.out; omega, rfl, T3.out, E4.out, O4.out⟩
      case round =>
        obtain ⟨c, n, L, hc, hn1, hn2, rfl, h1, h2, h3⟩ := hrel
        have H1 := Lib.hid h1
        have H3 := Lib.hid h3
        obtain ⟨g, cap, rfl, f1, f2, f3⟩ := h2.some (by rw [h1.1]; omega)
        have H2 := Lib.hid h2
        have hLn := h1.1
        rw [hLn] at f2 H2 ⊢
        clear h1 h2 h3 f1 hLn
        by_cases hlt : 0 < c
        · go_wp2_with fail
          rw [show (at' : Int) + k + c = ((at' + k + c : Nat) : Int) by simp]
          refine (number_any _ _ zs (at' + k + c) _ (H.out.keep H3.out) (by omega) HL.out (by omega)).mono ?_; rintro e w5 ⟨r, rfl, hr0, hr1, o5⟩
          have O5 := Lib.hid (H3.out.then0 o5)
          have E5 := Lib.hid (H2.out.keep o5)
          clear o5 hr1 H2 H3
          go_wp2_with fail
          refine (pick_any _ _).mono ?_; rintro e w6 ⟨rfl, o6⟩
          have O6 := Lib.hid (O5.out.then0 o6)
          have E6 := Lib.hid (E5.out.keep o6)
          have N6 := Lib.hid (H.out.keep O6.out)
          clear o6 O5 E5
          go_wp2_with fail
          rw [show (at' : Int) + c = ((at' + c : Nat) : Int) by simp, show (n : Int) + 1 = ((n + 1 : Nat) : Int) by simp]
          refine (number_any _ _ zs (at' + c) _ N6.out (by omega) HL.out (by omega)).mono ?_; rintro e w7 ⟨r2, rfl, hr2, hr3, o7⟩
          have hr4 := hr3 (by omega)
          obtain ⟨t3, rfl⟩ : ∃ t : Nat, r2 = t := ⟨r2.toNat, by omega⟩
          have HT3 : Hid (t3 ≤ n) := Lib.hid (by omega)
          have O7 := Lib.hid (O6.out.then0 o7)
          have E7 := Lib.hid (E6.out.keep o7)
          clear o7 hr2 hr3 hr4 O6 E6 N6
          go_wp2_with fail
          refine (insert_any _ _ L _ _ t3 E7.out (by rw [H1.out.1]; exact HT3.out) (by rw [H1.out.1]; omega)).mono ?_; rintro e w8 ⟨v8, rfl, o8, e8⟩
          have O8 := Lib.hid (O7.out.then0 o8)
          have E8 := Lib.hid e8
          clear o8 e8 O7 E7
          go_wp2_with fail
          go_roundw
          case rel => exact ⟨c - 1, n + 1, _, by omega, by omega, by omega, by go_num, H1.out.more _ t3 HT3.out, E8.out, O8.out⟩
          case measure => simp [intOf]; omega
        · obtain rfl : c = 0 := by omega
          clear hlt
          go_wp2_with fail
          go_ret
          exact ⟨_, L, rfl, H3.out, H2.out, H1.out.compl hm, by rw [H1.out.1]; exact hn1, by rw [H1.out.1]; omega⟩
end Go.Proofs.Ytfhmphbfngdkeaa
