/- Sorting by insertion on lists; a sorted permutation is that list. No condition. -/
import Derived.Test.YtenamlckhcfflaaRows
import Derived.Sort.LotA
namespace Go.Proofs.Ytenamlckhcfflaa
open Go.Sort

/-- x laid in behind all that are not greater. -/
def insL (x : Int) : List Int → List Int
  | [] => [x]
  | y :: r => if y ≤ x then y :: insL x r else x :: y :: r
/-- How many lie ahead of x. -/
def cntL (x : Int) : List Int → Nat
  | [] => 0
  | y :: r => if y ≤ x then cntL x r + 1 else 0
def sortR (xs : List Int) : List Int := xs.foldl (fun out x => insL x out) []

theorem cntL_le (x : Int) : ∀ l, cntL x l ≤ l.length
  | [] => Nat.le_refl _
  | y :: r => by
    have := cntL_le x r
    unfold cntL
    split <;> simp <;> omega
theorem insL_cut (x : Int) : ∀ l, insL x l = l.take (cntL x l) ++ x :: l.drop (cntL x l)
  | [] => rfl
  | y :: r => by
    unfold insL cntL
    by_cases h : y ≤ x
    · rw [if_pos h, if_pos h, insL_cut x r]
      rfl
    · rw [if_neg h, if_neg h]
      rfl
theorem cntL_go {x : Int} : ∀ {l : List Int} {k : Nat}, k < cntL x l → l.getD k 0 ≤ x
  | [], k, h => by simp [cntL] at h
  | y :: r, k, h => by
    unfold cntL at h
    by_cases g : y ≤ x
    · rw [if_pos g] at h
      cases k with
      | zero => simpa using g
      | succ k => simpa using cntL_go (l := r) (k := k) (by omega)
    · rw [if_neg g] at h; omega
theorem cntL_stop {x : Int} : ∀ {l : List Int}, cntL x l < l.length → x < l.getD (cntL x l) 0
  | [], h => by simp [cntL] at h
  | y :: r, h => by
    unfold cntL at h ⊢
    by_cases g : y ≤ x
    · rw [if_pos g] at h ⊢
      simp at h
      simpa using cntL_stop (l := r) h
    · rw [if_neg g]
      simp
      omega
theorem insL_length (x : Int) (l : List Int) : (insL x l).length = l.length + 1 := by
  have := cntL_le x l
  rw [insL_cut]
  simp
  omega
theorem insL_perm (x : Int) : ∀ l, (insL x l).Perm (x :: l)
  | [] => List.Perm.refl _
  | y :: r => by
    unfold insL
    split
    · exact ((insL_perm x r).cons y).trans (List.Perm.swap x y r)
    · exact List.Perm.refl _
theorem insL_sorted (x : Int) : ∀ l : List Int, l.Pairwise (· ≤ ·) → (insL x l).Pairwise (· ≤ ·)
  | [], _ => by simp [insL]
  | y :: r, h => by
    obtain ⟨h1, h2⟩ := List.pairwise_cons.1 h
    unfold insL
    by_cases g : y ≤ x
    · rw [if_pos g]
      refine List.pairwise_cons.2 ⟨fun z hz => ?_, insL_sorted x r h2⟩
      rcases List.mem_cons.1 ((insL_perm x r).mem_iff.1 hz) with e | e
      · rw [e]; exact g
      · exact h1 z e
    · rw [if_neg g]
      refine List.pairwise_cons.2 ⟨fun z hz => ?_, h⟩
      rcases List.mem_cons.1 hz with e | e
      · rw [e]; omega
      · have := h1 z e; omega

theorem sortR_snoc (xs : List Int) (x : Int) : sortR (xs ++ [x]) = insL x (sortR xs) := by unfold sortR; rw [List.foldl_append]; rfl
theorem foldl_ins (xs : List Int) : ∀ l : List Int, l.Pairwise (· ≤ ·) → (xs.foldl (fun out x => insL x out) l).Pairwise (· ≤ ·) ∧ (xs.foldl (fun out x => insL x out) l).Perm (xs ++ l) := by
  induction xs with
  | nil => intro l h; exact ⟨h, List.Perm.refl _⟩
  | cons a r ih =>
    intro l h
    obtain ⟨h1, h2⟩ := ih (insL a l) (insL_sorted a l h)
    refine ⟨h1, h2.trans ?_⟩
    exact ((insL_perm a l).append_left r).trans List.perm_middle
theorem sortR_sorted (xs : List Int) : (sortR xs).Pairwise (· ≤ ·) := (foldl_ins xs [] List.Pairwise.nil).1
theorem sortR_perm (xs : List Int) : (sortR xs).Perm xs := by have := (foldl_ins xs [] List.Pairwise.nil).2; rw [List.append_nil] at this; exact this
theorem sortR_length (xs : List Int) : (sortR xs).length = xs.length := (sortR_perm xs).length_eq

theorem perm_sorted_eq : ∀ {a b : List Int}, a.Perm b → a.Pairwise (· ≤ ·) → b.Pairwise (· ≤ ·) → a = b
  | [], b, h, _, _ => (List.nil_perm.1 h).symm
  | x :: r, [], h, _, _ => by have := h.length_eq; simp at this
  | x :: r, y :: t, h, ha, hb => by
    obtain ⟨a1, a2⟩ := List.pairwise_cons.1 ha
    obtain ⟨b1, b2⟩ := List.pairwise_cons.1 hb
    have e : x = y := by
      have h1 : x ∈ y :: t := h.mem_iff.1 (by simp)
      have h2 : y ∈ x :: r := h.mem_iff.2 (by simp)
      rcases List.mem_cons.1 h1 with e | e
      · exact e
      · rcases List.mem_cons.1 h2 with f | f
        · exact f.symm
        · have := b1 x e; have := a1 y f; omega
    subst e
    rw [perm_sorted_eq ((List.perm_cons x).1 h) a2 b2]

theorem eq_sortR {a xs : List Int} (hp : a.Perm xs) (hs : a.Pairwise (· ≤ ·)) : a = sortR xs := perm_sorted_eq (hp.trans (sortR_perm xs).symm) hs (sortR_sorted xs)

theorem sorted_list {d d' : Array Int} (hp : PermIn 0 d.size d d') (hs : SortedIn ltInt 0 d.size d') : d'.toList = sortR d.toList := by
  refine eq_sortR ?_ ?_
  · have := hp.2.2
    rw [Array.extract_size] at this
    have e : d'.extract 0 d.size = d' := by rw [← hp.1, Array.extract_size]
    rwa [e] at this
  · rw [List.pairwise_iff_getElem]
    intro i j hi hj hij
    have hsz := hp.1
    simp only [Array.length_toList] at hi hj
    have := hs i j (Nat.zero_le _) hij (by omega)
    unfold ltInt at this
    rw [getElem!_pos d' j hj, getElem!_pos d' i hi] at this
    simp at this
    simpa using this
end Go.Proofs.Ytenamlckhcfflaa
