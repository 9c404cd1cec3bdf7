/- Binary heaps in plain Lean: a push and a pop keep a heap, its first element is a least one. No program in sight. -/
import Derived.Test.YtenamlckhcfflaaEdfPlain
namespace Go.Proofs.Ytenamlckhcfflaa

/-- No element is less than its parent. -/
def Heap (l : List Int) : Prop := ∀ i, 1 ≤ i → i < l.length → l.getD ((i - 1) / 2) 0 ≤ l.getD i 0

theorem gs {l : List Int} {j : Nat} (x : Int) (i : Nat) (hj : j < l.length) : (l.set j x).getD i 0 = if i = j then x else l.getD i 0 := by
  by_cases h : i = j
  · subst h; rw [if_pos rfl, getD_set_eq hj]
  · rw [if_neg h, getD_set_ne (fun e => h e.symm)]

/-- A heap but for the place j. -/
structure UpOk (l : List Int) (j : Nat) : Prop where
  lt : j < l.length
  rest : ∀ i, 1 ≤ i → i < l.length → i ≠ j → l.getD ((i - 1) / 2) 0 ≤ l.getD i 0
  grand : ∀ i, 1 ≤ i → i < l.length → (i - 1) / 2 = j → 1 ≤ j → l.getD ((j - 1) / 2) 0 ≤ l.getD i 0

theorem up_step {k : Int} {l : List Int} {j : Nat} (h : UpOk (l.set j k) j) (hj : 0 < j) (hk : k < l.getD ((j - 1) / 2) 0) :
    UpOk ((l.set j (l.getD ((j - 1) / 2) 0)).set ((j - 1) / 2) k) ((j - 1) / 2) := by
  obtain ⟨h1, h2, h3⟩ := h
  rw [List.length_set] at h1 h2 h3
  have hp : (j - 1) / 2 < l.length := by omega
  have hp' : (j - 1) / 2 < (l.set j (l.getD ((j - 1) / 2) 0)).length := by rw [List.length_set]; exact hp
  have hpj : (j - 1) / 2 ≠ j := by omega
  obtain ⟨p, hpp⟩ : ∃ p, p = (j - 1) / 2 := ⟨_, rfl⟩
  rw [← hpp] at hp hp' hpj hk ⊢
  refine ⟨by rw [List.length_set]; exact hp', fun i h4 h5 h6 => ?_, fun i h4 h5 h6 h7 => ?_⟩
  · rw [List.length_set, List.length_set] at h5
    have e := h2 i h4 h5
    have g := h3 i h4 h5
    simp only [gs _ _ h1, gs _ _ hp'] at e g ⊢
    by_cases i1 : i = j
    · subst i1
      rw [if_pos hpp.symm, if_neg (fun e => hpj e.symm), if_pos rfl]; omega
    · rw [if_neg h6, if_neg i1]
      have e := e i1
      by_cases i2 : (i - 1) / 2 = p
      · rw [if_pos i2]
        rw [if_neg (by omega), if_neg i1, i2] at e
        omega
      · rw [if_neg i2]
        by_cases i3 : (i - 1) / 2 = j
        · rw [if_pos i3]
          have := g i3 (by omega)
          rw [← hpp, if_neg hpj, if_neg i1] at this
          exact this
        · rw [if_neg i3]
          rw [if_neg i3, if_neg i1] at e
          exact e
  · rw [List.length_set, List.length_set] at h5
    have e := h2 i h4 h5
    have e2 := h2 p h7 hp hpj
    simp only [gs _ _ h1, gs _ _ hp'] at e e2 ⊢
    rw [if_neg (by omega), if_neg hpj] at e2
    rw [if_neg (by omega), if_neg (by omega), if_neg (by omega)]
    by_cases i1 : i = j
    · rw [if_pos i1]; exact e2
    · rw [if_neg i1]
      have e := e i1
      rw [if_neg (by omega), if_neg i1, h6] at e
      omega

theorem up_end {k : Int} {l : List Int} {j : Nat} (h : UpOk (l.set j k) j) (hn : ¬ (0 < j ∧ k < l.getD ((j - 1) / 2) 0)) : Heap (l.set j k) := by
  obtain ⟨h1, h2, _⟩ := h
  intro i h4 h5
  by_cases i1 : i = j
  · rw [List.length_set] at h1
    rw [gs _ _ h1, gs _ _ h1, if_pos i1, if_neg (by omega)]
    subst i1
    omega
  · exact h2 i h4 h5 i1

theorem upP_heap (k : Int) : ∀ (f j : Nat) (l : List Int), j ≤ f → UpOk (l.set j k) j → Heap (upP k f j l) := by
  intro f
  induction f with
  | zero => intro j l hj h; unfold upP; exact up_end h (by omega)
  | succ f ih =>
    intro j l hj h
    unfold upP
    by_cases hc : 0 < j ∧ k < l.getD ((j - 1) / 2) 0
    · rw [if_pos hc]; exact ih _ _ (by omega) (up_step h hc.1 hc.2)
    · rw [if_neg hc]; exact up_end h hc

theorem push_heap (h : List Int) (k : Int) (hh : Heap h) : Heap (pushL h k) := by
  unfold pushL
  apply upP_heap _ _ _ _ (Nat.le_refl _)
  have e : (h ++ [k]).set h.length k = h ++ [k] := by
    rw [List.set_append_right _ _ (Nat.le_refl _)]
    simp
  have g : ∀ i, i < h.length → (h ++ [k]).getD i 0 = h.getD i 0 := fun i hi => by simp [List.getD, List.getElem?_append_left hi]
  rw [e]
  refine ⟨by simp, fun i h1 h2 h3 => ?_, fun i h1 h2 h3 h4 => ?_⟩
  · simp at h2
    rw [g i (by omega), g _ (by omega)]
    exact hh i h1 (by omega)
  · simp at h2
    omega

/-- A heap but for the children of the place i. -/
structure DownOk (l : List Int) (i : Nat) : Prop where
  lt : i < l.length
  rest : ∀ c, 1 ≤ c → c < l.length → (c - 1) / 2 ≠ i → l.getD ((c - 1) / 2) 0 ≤ l.getD c 0
  grand : ∀ c, 1 ≤ c → c < l.length → (c - 1) / 2 = i → 1 ≤ i → l.getD ((i - 1) / 2) 0 ≤ l.getD c 0

theorem lesser_le {l : List Int} {i c : Nat} (hc : (c - 1) / 2 = i) (h1 : 1 ≤ c) (h2 : c < l.length) : l.getD (lesserL l i) 0 ≤ l.getD c 0 := by
  unfold lesserL
  have : c = 2 * i + 1 ∨ c = 2 * i + 1 + 1 := by omega
  rcases this with rfl | rfl
  · split <;> omega
  · split
    · omega
    · rename_i h
      have := fun e => h ⟨h2, e⟩
      omega

theorem down_step {y : Int} {l : List Int} {i : Nat} (h : DownOk (l.set i y) i) (hc : 2 * i + 1 < l.length) (hy : l.getD (lesserL l i) 0 < y) :
    DownOk ((l.set i (l.getD (lesserL l i) 0)).set (lesserL l i) y) (lesserL l i) := by
  obtain ⟨h1, h2, h3⟩ := h
  have hlt := lesserL_lt hc
  have hgt := lesserL_gt l i
  have hpar : (lesserL l i - 1) / 2 = i := by unfold lesserL; split <;> omega
  have hle := fun c => lesser_le (l := l) (i := i) (c := c)
  obtain ⟨c, hcc⟩ : ∃ c, c = lesserL l i := ⟨_, rfl⟩
  rw [← hcc] at hlt hgt hpar hy hle ⊢
  rw [List.length_set] at h1 h2 h3
  have hlt' : c < (l.set i (l.getD c 0)).length := by rw [List.length_set]; exact hlt
  refine ⟨by rw [List.length_set]; exact hlt', fun d h4 h5 h6 => ?_, fun d h4 h5 h6 h7 => ?_⟩
  · rw [List.length_set, List.length_set] at h5
    have e := h2 d h4 h5
    have g := h3 c (by omega) hlt hpar
    simp only [gs _ _ h1, gs _ _ hlt'] at e g ⊢
    rw [if_neg h6]
    by_cases d1 : d = c
    · subst d1
      rw [if_pos hpar, if_pos rfl]; omega
    · rw [if_neg d1]
      by_cases d2 : (d - 1) / 2 = i
      · rw [if_pos d2, if_neg (by omega)]
        exact hle d d2 h4 h5
      · rw [if_neg d2]
        have e := e d2
        rw [if_neg d2] at e
        by_cases d3 : d = i
        · rw [if_pos d3]
          subst d3
          have g := g (by omega)
          rw [if_neg (by omega), if_neg (by omega)] at g
          exact g
        · rw [if_neg d3]
          rw [if_neg d3] at e
          exact e
  · rw [List.length_set, List.length_set] at h5
    have e := h2 d h4 h5 (by omega)
    simp only [gs _ _ h1, gs _ _ hlt'] at e ⊢
    rw [hpar, if_neg (by omega), if_pos rfl, if_neg (by omega), if_neg (by omega)]
    rw [h6, if_neg (by omega), if_neg (by omega)] at e
    exact e

theorem down_end {y : Int} {l : List Int} {i : Nat} (h : DownOk (l.set i y) i) (hn : ¬ (2 * i + 1 < l.length ∧ l.getD (lesserL l i) 0 < y)) : Heap (l.set i y) := by
  obtain ⟨h1, h2, _⟩ := h
  intro c h4 h5
  by_cases c1 : (c - 1) / 2 = i
  · rw [List.length_set] at h1 h5
    rw [gs _ _ h1, gs _ _ h1, if_pos c1, if_neg (by omega)]
    have := lesser_le c1 h4 h5
    omega
  · exact h2 c h4 h5 c1

theorem downP_heap (y : Int) : ∀ (f i : Nat) (l : List Int), l.length ≤ f + i → DownOk (l.set i y) i → Heap (downP y f i l) := by
  intro f
  induction f with
  | zero => intro i l hi h; exact absurd h.lt (by rw [List.length_set]; omega)
  | succ f ih =>
    intro i l hi h
    unfold downP
    by_cases hc : 2 * i + 1 < l.length ∧ l.getD (lesserL l i) 0 < y
    · rw [if_pos hc]
      have := lesserL_gt l i
      exact ih _ _ (by rw [List.length_set]; omega) (down_step h hc.1 hc.2)
    · rw [if_neg hc]; exact down_end h hc

theorem take_getD {l : List Int} {n i : Nat} (h : i < n) : (l.take n).getD i 0 = l.getD i 0 := by
  simp [List.getD, h]

theorem pop_heap (h : List Int) (hh : Heap h) : Heap (popL h) := by
  unfold popL
  split
  · intro i h1 h2; simp at h2
  · have hl : (h.take (h.length - 1)).length = h.length - 1 := by simp
    apply downP_heap
    · rw [hl]; omega
    · refine ⟨by rw [List.length_set, hl]; omega, fun c h1 h2 h3 => ?_, fun c h1 h2 h3 h4 => by omega⟩
      rw [List.length_set, hl] at h2
      rw [getD_set_ne (by omega), getD_set_ne (by omega), take_getD (by omega), take_getD (by omega)]
      exact hh c h1 (by omega)

theorem root_le {h : List Int} (hh : Heap h) : ∀ j, j < h.length → h.getD 0 0 ≤ h.getD j 0 := by
  intro j
  induction j using Nat.strongRecOn with
  | ind j ih =>
    intro hj
    by_cases h0 : j = 0
    · subst h0; exact Int.le_refl _
    · have h1 := ih ((j - 1) / 2) (by omega) (by omega)
      have h2 := hh j (by omega) hj
      omega

theorem downP_ge (y m : Int) (hy : m ≤ y) : ∀ (f i : Nat) (l : List Int), i < l.length → (∀ j, j < l.length → m ≤ l.getD j 0) → ∀ j, j < l.length → m ≤ (downP y f i l).getD j 0 := by
  intro f
  induction f with
  | zero =>
    intro i l hi h j hj
    unfold downP
    rw [gs _ _ hi]
    split
    · exact hy
    · exact h j hj
  | succ f ih =>
    intro i l hi h j hj
    unfold downP
    split
    · rename_i hc
      have hlt := lesserL_lt hc.1
      exact ih _ _ (by rw [List.length_set]; exact hlt) (fun q hq => by
        rw [List.length_set] at hq
        rw [gs _ _ hi]
        split
        · exact h _ hlt
        · exact h q hq) j (by rw [List.length_set]; exact hj)
    · rw [gs _ _ hi]
      split
      · exact hy
      · exact h j hj

theorem pop_ge (h : List Int) (hh : Heap h) (j : Nat) (hj : j < (popL h).length) : h.getD 0 0 ≤ (popL h).getD j 0 := by
  rw [popL_length] at hj
  have hne : ¬ h.length ≤ 1 := by omega
  have hl : (h.take (h.length - 1)).length = h.length - 1 := by simp
  unfold popL
  rw [if_neg hne]
  exact downP_ge _ _ (root_le hh _ (by omega)) _ _ _ (by omega) (fun q hq => by rw [take_getD (by omega)]; exact root_le hh q (by omega)) j (by omega)

theorem nil_heap : Heap [] := fun i h1 h2 => by simp at h2
end Go.Proofs.Ytenamlckhcfflaa
