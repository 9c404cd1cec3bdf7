/- What insert and Round of package workstealkeep compute. -/
import Derived.Test.YtfhmphbfngdkeaaScriptCompl
import Derived.Test.YtfhmphbfngdkeaaScriptMore
namespace Go.Proofs.Ytfhmphbfngdkeaa
open Go.RowKit
set_option linter.unusedVariables false

/-- What is known of a slice that the call made: nil, or a row of its own with these entries. -/
def EnCap (w : World) (v : Value) (l : List E) : Prop := (v = .slice none 0 0 ∧ l = []) ∨ ∃ g cap, v = .slice (some ⟨g, 0, none⟩) l.length cap ∧ CellsAt w (some ⟨g, 0, none⟩) (flat l) ∧ l.length ≤ cap ∧ cap ≤ 9223372036854775807

theorem enCap_owns {w : World} {base : Nat} {T : TypeId} {v : Value} {l : List E} {n : Nat} (h : w.ownsRow base T 2 v n (flat l)) : EnCap w v l := by
  obtain ⟨hE, hn⟩ := en_owns h
  by_cases hv : v = .slice none 0 0
  · subst hv
    obtain ⟨ao, cap, e, _⟩ := hE
    simp at e
    exact .inl ⟨rfl, List.eq_nil_of_length_eq_zero e.2.1.symm⟩
  · obtain ⟨ao, cap, e, h1, h2, h3⟩ := hE
    obtain ⟨g, c2, e2, _, _, _, h4⟩ := lt_of_owned h hv
    rw [e] at e2
    simp at e2
    obtain ⟨rfl, _, rfl⟩ := e2
    exact .inr ⟨g, cap, e, h1, h3, h4⟩
theorem EnCap.keep {w w' : World} {v : Value} {l : List E} (h : EnCap w v l) (o : Only [] w w') : EnCap w' v l := by
  rcases h with ⟨h1, h2⟩ | ⟨g, cap, e, h1, h2⟩
  · exact .inl ⟨h1, h2⟩
  · exact .inr ⟨g, cap, e, h1.keep0 o, h2⟩
theorem EnCap.nil (w : World) : EnCap w (.slice none 0 0) [] := .inl ⟨rfl, rfl⟩
theorem EnCap.en {w : World} {v : Value} {l : List E} (h : EnCap w v l) : En w v l := by
  rcases h with ⟨rfl, rfl⟩ | ⟨g, cap, e, h1, h2⟩
  · exact En.nil w
  · exact ⟨_, cap, e, h1, (fun e => by cases e), h2.1⟩

theorem own_made2 (w : World) (c : Obj) : ((w.alloc c).alloc (.cells #[] 35)).ownsRow (w.heap.size + 1) 35 2 (.slice (some ⟨w.heap.size + 1, 0, none⟩) 0 0) 0 (flat []) := by
  have := own_made (w.alloc c) (w.heap.size + 1) (by simp)
  simpa using this

set_option maxHeartbeats 1600000 in
set_option maxRecDepth 100000 in
theorem insert_any (w : World) (v : Value) (l : List E) (a b : Int) (t : Nat) (h : EnCap w v l) (ht : t ≤ l.length) (hl : l.length ≤ 10000) :
    Calls Try.prog 29 #[v, .agg #[.int .i64 a, .int .i64 b], .int .i64 t] w fun e w' => ∃ v', e = .returned v' ∧ Only [] w w' ∧ EnCap w' v' (l.take t ++ [(a, b)] ++ l.drop t) := by
  have OWN := Lib.hid (own_made2 w (.cells #[.int .i64 a, .int .i64 b] 35))
  have O1 : Hid (Only [] w ((w.alloc (.cells #[.int .i64 a, .int .i64 b] 35)).alloc (.cells #[] 35))) := Lib.hid (((Only.refl [] w).alloc _).alloc _)
  have BX : Hid (((w.alloc (.cells #[.int .i64 a, .int .i64 b] 35)).alloc (.cells #[] 35)).cell? ⟨w.heap.size, 0, none⟩ = some (.int .i64 a) ∧ ((w.alloc (.cells #[.int .i64 a, .int .i64 b] 35)).alloc (.cells #[] 35)).cell? ⟨w.heap.size, 1, none⟩ = some (.int .i64 b)) := by
    exact Lib.hid ⟨by simp, by simp⟩
  rcases h with ⟨rfl, rfl⟩ | ⟨g, cap, rfl, h1, h2, h3⟩
  ·
    obtain rfl : t = 0 := by simpa using ht
    obtain ⟨A, hA⟩ : ∃ A, A = ([] : List E) := ⟨_, rfl⟩
    rw [show List.take 0 ([] : List E) ++ [(a, b)] ++ List.drop 0 ([] : List E) = A ++ [(a, b)] ++ A by rw [hA]; rfl]
    have T1 : Hid (∀ u, En u (.slice none 0 0) A) := Lib.hid (fun u => by rw [hA]; exact En.nil u)
    have HAB : Hid (A.length = 0 ∧ A.length = 0) := Lib.hid ⟨by rw [hA]; rfl, by rw [hA]; rfl⟩
    clear hA
    go_enter Try.func29, Try.ntmps29
    have c0 := BX.out.1
    have c1 := BX.out.2
    go_wp2_with (at_builtin; refine wpList_append_en _ rfl _ _ rfl (w.heap.size + 1) _ [] rfl OWN.out _ A rfl (T1.out _) (by have := HAB.out.1; first | omega | (simp; done) | (simp; omega) | (simp at *; omega)) (by simp) ?_)
    intro v2 w2 hown2 hgrow2 hnil2
    have P2 := Lib.hid (O1.out.grown hgrow2 (by simp [Value.ownBlock]))
    have K2 := (Only.refl [w.heap.size + 1] _).grown hgrow2 (by simp [Value.ownBlock])
    have W2 : Hid (w2.ownsRow (w.heap.size + 1) 35 2 v2 (A).length (flat A)) := Lib.hid hown2
    have hs2 := P2.out.size
    have d0 := K2.keepCell c0 (by simp)
    have d1 := K2.keepCell c1 (by simp)
    have hs3 : w.heap.size + 2 ≤ w2.heap.size := by have := K2.size; simpa using this
    clear c0 c1 hown2 hgrow2 hnil2 OWN K2 BX
    go_wp2_with (at_builtin; refine wpList_append_en _ rfl _ _ rfl (w.heap.size + 1) _ A rfl (W2.out.alloc _) _ [(a, b)] rfl (en_new [(a, b)] (blk_alloc_new _ _) rfl) (by have := HAB.out.1; first | omega | (simp; done) | (simp; omega) | (simp at *; omega)) (by first | omega | (simp; done) | (simp; omega) | (simp at *; omega)) ?_)
    intro v3 w3 hown3 hgrow3 hnil3
    have P3 : Hid (Only [] w w3) := Lib.hid ((P2.out.alloc (.cells #[.int .i64 a, .int .i64 b] 35)).grown hgrow3 (fun q hq => .inr (by have := (W2.out.lt q hq).1; omega)))
    have hs4 := P3.out.size
    have W3 : Hid (w3.ownsRow (w.heap.size + 1) 35 2 v3 (A ++ [(a, b)]).length (flat (A ++ [(a, b)]))) := Lib.hid (by rw [List.length_append]; exact hown3)
    have hs5 : w2.heap.size + 1 ≤ w3.heap.size := by have := hgrow3.size; simpa using this
    have HCL : Hid ((A ++ [(a, b)]).length = 0 + 1) := Lib.hid (by have := HAB.out.1; first | omega | (simp; done) | (simp; omega) | (simp at *; omega))
    obtain ⟨C, hC⟩ : ∃ C, C = A ++ [(a, b)] := ⟨_, rfl⟩
    rw [← hC] at W3 HCL
    have HC := Lib.hid hC
    clear hC hown3 hgrow3 hnil3 d0 d1
    go_wp2_with (at_builtin; refine wpList_append_en _ rfl _ _ rfl (w.heap.size + 1) _ C rfl W3.out _ A rfl (T1.out _) (by have := HCL.out; have := HAB.out.2; first | omega | (simp; done) | (simp; omega) | (simp at *; omega)) (by omega) ?_)
    intro v4 w4 hown4 hgrow4 hnil4
    have P4 := Lib.hid (P3.out.grown hgrow4 (fun q hq => .inr (by have := (W3.out.lt q hq).1; omega)))
    have W4 : Hid (w4.ownsRow (w.heap.size + 1) 35 2 v4 (C ++ A).length (flat (C ++ A))) := Lib.hid (by rw [List.length_append]; exact hown4)
    clear hown4 hgrow4 hnil4
    go_wp2_with fail
    go_ret
    exact ⟨v4, rfl, P4.out, by have := enCap_owns W4.out; rw [HC.out] at this; exact this⟩
  · obtain ⟨n, hn⟩ : ∃ n, n = l.length := ⟨_, rfl⟩
    rw [← hn] at ht hl h2 ⊢
    have T1 : Hid (En ((w.alloc (.cells #[.int .i64 a, .int .i64 b] 35)).alloc (.cells #[] 35)) (.slice (some ⟨g, 0, none⟩) t cap) (l.take t)) := Lib.hid ((en_take h1 hn t cap ht (by omega)).keep O1.out)
    have D1 : Hid (∀ o, (t < n → o = t * 2) → En w (.slice (some ⟨g, o, none⟩) (n - t) (cap - t)) (l.drop t)) := Lib.hid (fun o ho => en_drop h1 hn t (cap - t) ht (by omega) o (by simpa using ho))
    have HAB : Hid ((l.take t).length = t ∧ (l.drop t).length = n - t) := Lib.hid ⟨by rw [List.length_take]; omega, by rw [List.length_drop, ← hn]⟩
    have htc : t ≤ cap := by omega
    generalize l.take t = A at *
    generalize l.drop t = B at *
    clear h1 hn
    go_enter Try.func29, Try.ntmps29
    have c0 := BX.out.1
    have c1 := BX.out.2
    go_wp2_with (at_builtin; refine wpList_append_en _ rfl _ _ rfl (w.heap.size + 1) _ [] rfl OWN.out _ A rfl T1.out (by have := HAB.out.1; first | omega | (simp; done) | (simp; omega) | (simp at *; omega)) (by simp) ?_)
    intro v2 w2 hown2 hgrow2 hnil2
    have P2 := Lib.hid (O1.out.grown hgrow2 (by simp [Value.ownBlock]))
    have K2 := (Only.refl [w.heap.size + 1] _).grown hgrow2 (by simp [Value.ownBlock])
    have W2 : Hid (w2.ownsRow (w.heap.size + 1) 35 2 v2 (A).length (flat A)) := Lib.hid hown2
    have hs2 := P2.out.size
    have d0 := K2.keepCell c0 (by simp)
    have d1 := K2.keepCell c1 (by simp)
    have hs3 : w.heap.size + 2 ≤ w2.heap.size := by have := K2.size; simpa using this
    clear c0 c1 hown2 hgrow2 hnil2 OWN K2 BX
    go_wp2_with (at_builtin; refine wpList_append_en _ rfl _ _ rfl (w.heap.size + 1) _ A rfl (W2.out.alloc _) _ [(a, b)] rfl (en_new [(a, b)] (blk_alloc_new _ _) rfl) (by have := HAB.out.1; first | omega | (simp; done) | (simp; omega) | (simp at *; omega)) (by first | omega | (simp; done) | (simp; omega) | (simp at *; omega)) ?_)
    intro v3 w3 hown3 hgrow3 hnil3
    have P3 : Hid (Only [] w w3) := Lib.hid ((P2.out.alloc (.cells #[.int .i64 a, .int .i64 b] 35)).grown hgrow3 (fun q hq => .inr (by have := (W2.out.lt q hq).1; omega)))
    have hs4 := P3.out.size
    have W3 : Hid (w3.ownsRow (w.heap.size + 1) 35 2 v3 (A ++ [(a, b)]).length (flat (A ++ [(a, b)]))) := Lib.hid (by rw [List.length_append]; exact hown3)
    have hs5 : w2.heap.size + 1 ≤ w3.heap.size := by have := hgrow3.size; simpa using this
    have HCL : Hid ((A ++ [(a, b)]).length = t + 1) := Lib.hid (by have := HAB.out.1; first | omega | (simp; done) | (simp; omega) | (simp at *; omega))
    obtain ⟨C, hC⟩ : ∃ C, C = A ++ [(a, b)] := ⟨_, rfl⟩
    rw [← hC] at W3 HCL
    have HC := Lib.hid hC
    clear hC hown3 hgrow3 hnil3 d0 d1
    by_cases hcz : t = cap
    · subst hcz
      have htz : t = n := by omega
      have DZ1 : Hid (En w3 (.slice (some ⟨g, 0, none⟩) (n - t) 0) B) := Lib.hid (by have := (D1.out 0 (fun h => by omega)).keep P3.out; rwa [Nat.sub_self] at this)
      have DZ2 : Hid (En w3 (.slice (some ⟨g, 0, none⟩) 0 0) B) := Lib.hid (by have := DZ1.out; rwa [show n - t = 0 by omega] at this)
      have DZ3 : Hid (En w3 (.slice (some ⟨g, t * 2, none⟩) (n - t) 0) B) := Lib.hid (by have := (D1.out (t * 2) (fun h => by omega)).keep P3.out; rwa [Nat.sub_self] at this)
      clear htz
      go_wp2_with (at_builtin; refine wpList_append_en _ rfl _ _ rfl (w.heap.size + 1) _ C rfl W3.out _ B rfl (by first | exact DZ1.out | exact DZ2.out | exact DZ3.out) (by have := HCL.out; have := HAB.out.2; first | omega | (simp; done) | (simp; omega) | (simp at *; omega)) (by omega) ?_)
      intro v4 w4 hown4 hgrow4 hnil4
      have P4 := Lib.hid (P3.out.grown hgrow4 (fun q hq => .inr (by have := (W3.out.lt q hq).1; omega)))
      have W4 : Hid (w4.ownsRow (w.heap.size + 1) 35 2 v4 (C ++ B).length (flat (C ++ B))) := Lib.hid (by rw [List.length_append]; exact hown4)
      clear hown4 hgrow4 hnil4
      go_wp2_with fail
      go_ret
      exact ⟨v4, rfl, P4.out, by have := enCap_owns W4.out; rw [HC.out] at this; exact this⟩
    · have hcz2 : t < cap := by omega
      go_wp2_with (at_builtin; refine wpList_append_en _ rfl _ _ rfl (w.heap.size + 1) _ C rfl W3.out _ B rfl ((D1.out _ (fun _ => rfl)).keep P3.out) (by have := HCL.out; have := HAB.out.2; first | omega | (simp; done) | (simp; omega) | (simp at *; omega)) (by omega) ?_)
      intro v4 w4 hown4 hgrow4 hnil4
      have P4 := Lib.hid (P3.out.grown hgrow4 (fun q hq => .inr (by have := (W3.out.lt q hq).1; omega)))
      have W4 : Hid (w4.ownsRow (w.heap.size + 1) 35 2 v4 (C ++ B).length (flat (C ++ B))) := Lib.hid (by rw [List.length_append]; exact hown4)
      clear hown4 hgrow4 hnil4
      go_wp2_with fail
      go_ret
      exact ⟨v4, rfl, P4.out, by have := enCap_owns W4.out; rw [HC.out] at this; exact this⟩
end Go.Proofs.Ytfhmphbfngdkeaa
