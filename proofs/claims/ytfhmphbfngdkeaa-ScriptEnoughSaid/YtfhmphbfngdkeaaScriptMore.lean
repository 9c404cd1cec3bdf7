/- Short, and the law ScriptMore, walked. -/
import Derived.Test.YtfhmphbfngdkeaaScriptKit2
namespace Go.Proofs.Ytfhmphbfngdkeaa
open Go.RowKit
set_option linter.unusedVariables false

theorem blk_new {w : World} {b : Nat} (o : Obj) (h : b = w.heap.size) : (w.alloc o).heap[b]? = some o := by subst h; exact blk_alloc_new w o

/-- Slices by their address, length, capacity. -/
def sl3 (x : Option Addr × Nat × Nat) : Value := .slice x.1 x.2.1 x.2.2

theorem short_any (w : World) (ao : Option Addr) (nb cap : Nat) (hnb : nb ≤ 9223372036854775807) (B : Nat) (T : TypeId) (f : Nat × Nat) (ns : List (Option Addr × Nat × Nat)) (n : Nat) (hn : n = ns.length) (hn2 : n ≤ 100) (hb : w.heap[B]? = some (.cells (ns.map sl3).toArray T f))
    (hns : ∀ x ∈ ns, x.2.1 ≤ 9223372036854775807) :
    Calls Try.prog 15 #[.slice ao nb cap, .slice (some ⟨B, 0, none⟩) n n] w fun e w' => e = .returned (.bool (decide (∀ x ∈ ns, x.2.1 ≤ 400) && decide (nb ≤ 400))) ∧ w = w' := by
  have HN := Lib.hid hn
  have HB := Lib.hid hb
  have HS := Lib.hid hns
  obtain ⟨r, hr⟩ : ∃ r, r = (decide (∀ x ∈ ns, x.2.1 ≤ 400) && decide (nb ≤ 400)) := ⟨_, rfl⟩
  rw [← hr]
  have HR := Lib.hid hr
  clear hn hb hns hr
  go_enter Try.func15, Try.ntmps15
  go_wp2_with fail
  go_loop [5] (fun i => ∃ k : Nat, k ≤ n ∧ i = .int .i64 k ∧ ∀ j x, j < k → ns[j]? = some x → x.2.1 ≤ 400) (fun i => n - (intOf i).toNat)
  case atStart => exact ⟨0, Nat.zero_le _, rfl, fun j x hj => by omega⟩
  case round =>
    obtain ⟨k, hk, rfl, hall⟩ := hrel
    have HA := Lib.hid hall
    clear hall
    by_cases hlt : k < n
    · have hkn : k < ns.length := by have := HN.out; omega
      have c0 := cell_blk HB.out k
      have HX := Lib.hid (HS.out ns[k] (List.getElem_mem hkn))
      obtain ⟨x, hx⟩ : ∃ x, x = ns[k] := ⟨_, rfl⟩
      have HXK : Hid (ns[k]? = some x) := Lib.hid (by rw [List.getElem?_eq_getElem hkn, hx])
      have hmem : Hid (x ∈ ns) := Lib.hid (by rw [hx]; exact List.getElem_mem hkn)
      simp [hkn, ← hx] at c0
      rw [← hx] at HX
      clear hx
      obtain ⟨a, m, c⟩ := x
      simp only [sl3] at c0 HX
      have hx2 := HX.out
      by_cases h4 : m ≤ 400
      · have h5 : ¬ 400 < m := by omega
        go_wp2_with fail
        go_round
        case rel => exact ⟨k + 1, by omega, by go_num, fun j x hj hx => by
          by_cases e : j = k
          · subst e
            rw [HXK.out] at hx
            cases hx
            exact h4
          · exact HA.out j x (by omega) hx⟩
        case measure => simp [intOf]; omega
      · have h5 : 400 < m := by omega
        have hf : Hid ((decide (∀ x ∈ ns, x.2.1 ≤ 400) && decide (nb ≤ 400)) = false) := Lib.hid (by
          rw [decide_eq_false (fun h => h4 (h _ hmem.out))]; rfl)
        go_wp2_with fail
        go_ret
        exact ⟨ret_bool (by rw [HR.out]; exact hf.out.symm), rfl⟩
    · have hf : Hid (decide (∀ x ∈ ns, x.2.1 ≤ 400) = true) := Lib.hid (decide_eq_true (fun x hx => by
        obtain ⟨j, hj, rfl⟩ := List.getElem_of_mem hx
        exact HA.out j _ (by have := HN.out; omega) (List.getElem?_eq_getElem hj)))
      by_cases h4 : nb ≤ 400
      · go_wp2_with fail
        go_ret
        exact ⟨ret_bool (by rw [HR.out, hf.out, decide_eq_true h4]; simp; omega), rfl⟩
      · have h5 : 400 < nb := by omega
        go_wp2_with fail
        go_ret
        exact ⟨ret_bool (by rw [HR.out, hf.out, decide_eq_false h4]; simp; omega), rfl⟩

theorem rstep_mono (m : Nat) (s : (Nat → Bool) × Nat) (e : E) : s.2 ≤ (rstep m s e).2 := by
  unfold rstep
  split
  · exact Nat.le_refl _
  · split
    · exact Nat.le_refl _
    · exact Nat.le_succ _
theorem foldl_mono (m : Nat) (l : List E) : ∀ s, s.2 ≤ (l.foldl (rstep m) s).2 := by
  induction l with
  | nil => intro s; exact Nat.le_refl _
  | cons e l ih => intro s; exact Nat.le_trans (rstep_mono m s e) (ih _)
theorem roundsI_more (m : Int) (x y : List E) : roundsI m x ≤ roundsI m (x ++ y) := by
  unfold roundsI
  split
  · exact Nat.le_refl _
  · unfold rounds
    rw [List.foldl_append]
    exact foldl_mono _ y _
theorem roundsI_skip (m : Int) (x y : List E) (e : E) (he : e.1 = 2 ∨ e.1 = 3) : roundsI m (x ++ [e] ++ y) = roundsI m (x ++ y) := by
  unfold roundsI
  split
  · rfl
  · unfold rounds
    have hp : placeI e (m.toNat : Int) < 0 := by
      unfold placeI machI
      rw [if_neg (by omega), if_neg (by omega)]
      omega
    rw [List.foldl_append, List.foldl_append, List.foldl_append]
    simp only [List.foldl_cons, List.foldl_nil]
    rw [rstep_skip hp]
theorem take_drop_len (l : List E) (k : Nat) : l.take k ++ l.drop k = l := List.take_append_drop k l

theorem ScriptMore_big (w : World) (ao : Option Addr) (cap nb : Nat) (hm : nb ≤ 9223372036854775807) (co : Option Addr) (cap2 nc : Nat) (hm2 : nc ≤ 9223372036854775807) (m : Int) (io : Option Addr) (cap3 ni : Nat) (hm3 : ni ≤ 9223372036854775807)
    (hbig : ¬ (nb ≤ 400 ∧ ni ≤ 400 ∧ nc ≤ 400)) :
    Calls Try.prog 5 #[.slice ao nb cap, .slice co nc cap2, .int .i64 m, .slice io ni cap3] w fun e w' => e = .returned (.bool true) ∧ Only [] w w' := by
  have S := Lib.hid (short_any (w.alloc (.cells #[.slice io ni cap3] 28)) ao nb cap hm w.heap.size 28 (0, 0) [(io, ni, cap3)] 1 rfl (by omega) (blk_alloc_new _ _) (by simp; omega))
  have h1 : decide (∀ x ∈ [(io, ni, cap3)], x.2.1 ≤ 400) = decide (ni ≤ 400) := by simp
  rw [h1] at S
  by_cases h2 : nb ≤ 400 ∧ ni ≤ 400
  · rw [decide_eq_true h2.1, decide_eq_true h2.2, Bool.and_true] at S
    have h3 : 400 < nc := by omega
    clear hbig h1 h2
    go_enter Try.func5, Try.ntmps5
    go_wp2_with fail
    refine S.out.mono ?_; rintro e w1 ⟨rfl, rfl⟩
    go_wp2_with fail
    go_ret
    exact ⟨rfl, (Only.refl _ _).alloc _⟩
  · rw [show (decide (ni ≤ 400) && decide (nb ≤ 400)) = false by simp; omega] at S
    clear hbig h1 h2
    go_enter Try.func5, Try.ntmps5
    go_wp2_with fail
    refine S.out.mono ?_; rintro e w1 ⟨rfl, rfl⟩
    go_wp2_with fail
    go_ret
    exact ⟨rfl, (Only.refl _ _).alloc _⟩

theorem own_cells {w : World} {base g n zc : Nat} {Z : List E} (h : w.ownsRow base 35 2 (.slice (some ⟨g, 0, none⟩) n zc) n (flat Z)) : CellsAt w (some ⟨g, 0, none⟩) (flat Z) := by
  obtain ⟨⟨ao, cap, e, h1, _, _⟩, _⟩ := en_owns h
  simp at e
  rw [e.1]
  exact h1

set_option maxRecDepth 100000 in
set_option maxHeartbeats 1600000 in
theorem ScriptMore_small (w : World) (ao : Option Addr) (cap nb : Nat) (co : Option Addr) (cap2 nc : Nat) (m : Int) (io : Option Addr) (cap3 ni : Nat)
    (hb : nb ≤ 400) (hi : ni ≤ 400) (hc : nc ≤ 400) (xb xc xi : List Int) (Hb : Hid (By w (.slice ao nb cap) xb)) (Hc : Hid (By w (.slice co nc cap2) xc)) (Hi : Hid (Ns w (.slice io ni cap3) xi)) (eb : Hid (nb = xb.length)) (ec : Hid (nc = xc.length)) (ei : Hid (ni = xi.length))
    (wb : Hid (∀ z ∈ xb, (Lit.int .u8 z).wf = true)) (wc : Hid (∀ z ∈ xc, (Lit.int .u8 z).wf = true)) :
    Calls Try.prog 5 #[.slice ao nb cap, .slice co nc cap2, .int .i64 m, .slice io ni cap3] w fun e w' => e = .returned (.bool true) ∧ Only [] w w' := by
  have S := Lib.hid (short_any (w.alloc (.cells #[.slice io ni cap3] 28)) ao nb cap (by omega) w.heap.size 28 (0, 0) [(io, ni, cap3)] 1 rfl (by omega) (blk_alloc_new _ _) (by simp; omega))
  rw [show (decide (∀ x ∈ [(io, ni, cap3)], x.2.1 ≤ 400) && decide (nb ≤ 400)) = true by simp; omega] at S
  go_enter Try.func5, Try.ntmps5
  go_wp2_with fail
  refine S.out.mono ?_; rintro e w1 ⟨rfl, rfl⟩
  go_wp2_with fail
  refine (number_any ((w.alloc (.cells #[.slice io ni cap3] 28)).alloc (.cells #[.int .i64 m] 3)) (.slice (some ⟨w.heap.size + 1, 0, none⟩) 1 1) [m] 0 4 (ns_new [m] (blk_new _ (by simp)) rfl) (by omega) (by simp) (by omega)).mono ?_; rintro e w1 ⟨r, rfl, hr0, hr1, o1⟩
  have hr2 := hr1 (by omega)
  have O1 := Lib.hid ((((Only.refl [] w).alloc (.cells #[.slice io ni cap3] 28)).alloc (.cells #[.int .i64 m] 3)).then0 o1)
  have Hb1 := Lib.hid (Hb.out.keep O1.out)
  have Hc1 := Lib.hid (Hc.out.keep O1.out)
  have Hi1 := Lib.hid (Hi.out.keep O1.out)
  clear o1 S hr1
  go_wp2_with fail
  refine (refDecode_any _ _ xb Hb1.out wb.out (by have := eb.out; omega)).mono ?_; rintro e w2 ⟨x, rfl, o2, s2⟩
  have Hc2 := Lib.hid (Hc1.out.keep o2)
  have Hi2 := Lib.hid (Hi1.out.keep o2)
  have O2 := Lib.hid (O1.out.then0 o2)
  have X2 := Lib.hid (en_owns s2).1
  clear o2 s2 O1 Hb1 Hc1 Hi1
  go_wp2_with fail
  refine (refDecode_any _ _ xc Hc2.out wc.out (by have := ec.out; omega)).mono ?_; rintro e w3 ⟨y, rfl, o3, s3⟩
  have Hi3 := Lib.hid (Hi2.out.keep o3)
  have O3 := Lib.hid (O2.out.then0 o3)
  have X3 := Lib.hid (X2.out.keep o3)
  have Y3 := Lib.hid (en_owns s3).1
  clear o3 s3 O2 Hc2 Hi2 X2
  have LX : Hid ((decL xb).length ≤ 200) := Lib.hid (by rw [decL_len]; have := eb.out; omega)
  have LY : Hid ((decL xc).length ≤ 200) := Lib.hid (by rw [decL_len]; have := ec.out; omega)
  obtain ⟨X, hX⟩ : ∃ X, X = decL xb := ⟨_, rfl⟩
  obtain ⟨Y, hY⟩ : ∃ Y, Y = decL xc := ⟨_, rfl⟩
  rw [← hX] at X3 LX
  rw [← hY] at Y3 LY
  clear hX hY
  obtain ⟨k, hk⟩ : ∃ k, 1 + r = k := ⟨_, rfl⟩
  have hk1 : 1 ≤ k := by omega
  have hk2 : k ≤ 4 := by omega
  go_wp2_with fail
  refine (rounds_any _ _ X k X3.out (by have := LX.out; omega) (by omega)).mono ?_; rintro e w4 ⟨rfl, o4⟩
  have Hi4 := Lib.hid (Hi3.out.keep o4)
  have O4 := Lib.hid (O3.out.then0 o4)
  have X4 := Lib.hid (X3.out.keep o4)
  have Y4 := Lib.hid (Y3.out.keep o4)
  have hmore := roundsI_more k X Y
  obtain ⟨q, hq⟩ : ∃ q, q = roundsI k X := ⟨_, rfl⟩
  rw [← hq] at hmore ⊢
  have HQ := Lib.hid hq
  clear hq o4 O3 X3 Y3 Hi3
  go_wp2_with fail
  refine (awake_any _).mono ?_; rintro e w5 ⟨rfl, o5⟩
  have Hi5 := Lib.hid (Hi4.out.keep o5)
  have O5 := Lib.hid (O4.out.then0 o5)
  have X5 := Lib.hid (X4.out.keep o5)
  have Y5 := Lib.hid (Y4.out.keep o5)
  clear o5 O4 X4 Y4 Hi4
  have OWN := Lib.hid (own_made w5 w5.heap.size (Nat.le_refl _))
  go_wp2_with (at_builtin; refine wpList_append_en _ rfl _ _ rfl w5.heap.size _ [] rfl OWN.out _ X rfl (X5.out.keep ((Only.refl [] w5).alloc _)) (by have := LX.out; simp; omega) (by simp) ?_)
  intro v6 w6 hown6 hgrow6 hnil6
  have P6 := Lib.hid (((Only.refl [] w5).alloc (.cells #[] 35)).grown hgrow6 (by simp [Value.ownBlock]))
  have W6 : Hid (w6.ownsRow w5.heap.size 35 2 v6 X.length (flat X)) := Lib.hid hown6
  clear OWN hown6 hgrow6 hnil6
  go_wp2_with (at_builtin; refine wpList_append_en _ rfl _ _ rfl w5.heap.size _ X rfl W6.out _ Y rfl (Y5.out.keep P6.out) (by have := LX.out; have := LY.out; omega) P6.out.size ?_)
  intro v7 w7 hown7 hgrow7 hnil7
  have P7 := Lib.hid (P6.out.grown hgrow7 (fun q hq => .inr (W6.out.lt q hq).1))
  have W7 := Lib.hid (en_owns hown7).1
  have X7 := Lib.hid (X5.out.keep P7.out)
  have Hi7 := Lib.hid (Hi5.out.keep P7.out)
  have O7 := Lib.hid (O5.out.then0 P7.out)
  clear hown7 hgrow7 hnil7 W6 P6 P7 X5 Y5 Hi5 O5
  go_wp2_with fail
  refine (rounds_any _ _ (X ++ Y) k W7.out (by have := LX.out; have := LY.out; simp; omega) (by omega)).mono ?_; rintro e w8 ⟨rfl, o8⟩
  have X8 := Lib.hid (X7.out.keep o8)
  have Hi8 := Lib.hid (Hi7.out.keep o8)
  have O8 := Lib.hid (O7.out.then0 o8)
  obtain ⟨q2, hq2⟩ : ∃ q2, q2 = roundsI k (X ++ Y) := ⟨_, rfl⟩
  rw [← hq2] at hmore ⊢
  have hmore2 : ¬ (q2 : Int) < (q : Int) := by omega
  clear hq2 o8 X7 Hi7 O7 W7
  have OWN := Lib.hid (own_made w8 w8.heap.size (Nat.le_refl _))
  go_wp2_with (at_builtin; refine wpList_append_en _ rfl _ _ rfl w8.heap.size _ [] rfl OWN.out _ X rfl (X8.out.keep ((Only.refl [] w8).alloc _)) (by have := LX.out; simp; omega) (by simp) ?_)
  intro v9 w9 hown9 hgrow9 hnil9
  have hnil9' : v9 ≠ .slice none 0 0 := by simpa using hnil9
  have P9 := Lib.hid (((Only.refl [] w8).alloc (.cells #[] 35)).grown hgrow9 (by simp [Value.ownBlock]))
  have W9 : Hid (w9.ownsRow w8.heap.size 35 2 v9 X.length (flat X)) := Lib.hid hown9
  have Hi9 := Lib.hid (Hi8.out.keep P9.out)
  have O9 := Lib.hid (O8.out.then0 P9.out)
  have N9 := Lib.hid hnil9'
  have P9s := Lib.hid P9.out.size
  clear OWN hown9 hgrow9 hnil9 hnil9' P9 X8 Hi8 O8
  go_wp2_with fail
  go_loopw [12, 13] (fun z i wr => ∃ (j : Nat) (Z : List E), j ≤ ni ∧ j ≤ 10 ∧ i = .int .i64 j ∧ wr.ownsRow w8.heap.size 35 2 z Z.length (flat Z) ∧ z ≠ .slice none 0 0 ∧ Z.length = X.length + j ∧ roundsI k Z = q ∧ Ns wr (.slice io ni cap3) xi ∧ Only [] w wr ∧ w8.heap.size ≤ wr.heap.size) (fun _ i _ => ni - (intOf i).toNat)
  case atStart => exact ⟨0, X, Nat.zero_le _, by omega, rfl, W9.out, N9.out, rfl, HQ.out.symm, Hi9.out, O9.out, (by have := P9s.out; exact this)⟩
  case round =>
    obtain ⟨j, Z, hj, hj10, rfl, hown, hnn, hlen, hq, hNs, hP, hsz⟩ := hrel
    have HQ2 := Lib.hid hq
    have I := Lib.hid hNs
    have P := Lib.hid hP
    have W := Lib.hid hown
    have HLen := Lib.hid hlen
    obtain ⟨g, zc, rfl, hg1, hg2, hg3, hg4⟩ := own_some hown hnn
    obtain ⟨nz, hnz⟩ : ∃ nz, nz = Z.length := ⟨_, rfl⟩
    rw [← hnz] at hg3 ⊢
    have HNZ := Lib.hid hnz
    have hnz2 : nz ≤ 300 := by have := LX.out; omega
    clear hown hnn hlen hq hNs hP hnz W9 N9 Hi9 O9 P9s
    by_cases hgo : j < ni ∧ j < 10
    · obtain ⟨hlt, h10⟩ := hgo
      go_wp2_with fail
      refine (number_any _ _ xi j _ I.out (by omega) (by have := ei.out; omega) (by omega)).mono ?_; rintro e w1 ⟨at', rfl, ha0, ha1, o1⟩
      have ha2 := ha1 (by omega)
      obtain ⟨t, rfl⟩ : ∃ t : Nat, at' = t := ⟨at'.toNat, by omega⟩
      have I1 := Lib.hid (I.out.keep o1)
      have P1 := Lib.hid (P.out.then0 o1)
      have W1 := Lib.hid (owns_keep W.out o1)
      have ht : t ≤ nz := by omega
      have htc : t ≤ zc := by omega
      have hs1 := o1.size
      have CZ := Lib.hid (own_cells (Z := Z) (n := nz) (by rw [HNZ.out]; exact W1.out))
      have OWN := Lib.hid (own_made w1 w1.heap.size (Nat.le_refl _))
      have T1 : Hid (En w1 (.slice (some ⟨g, 0, none⟩) t zc) (Z.take t)) := Lib.hid (en_take CZ.out HNZ.out t zc ht htc)
      have D1 : Hid (∀ o, (t < nz → o = t * 2) → En w1 (.slice (some ⟨g, o, none⟩) (nz - t) (zc - t)) (Z.drop t)) := Lib.hid (fun o ho => en_drop CZ.out HNZ.out t (zc - t) ht (by omega) o (by simpa using ho))
      have HAB : Hid (Z.take t ++ Z.drop t = Z ∧ (Z.take t).length = t ∧ (Z.drop t).length = nz - t) := Lib.hid ⟨take_drop_len Z t, by rw [List.length_take]; have := HNZ.out; omega, by rw [List.length_drop, HNZ.out]⟩
      generalize Z.take t = A at *
      generalize Z.drop t = B at *
      clear o1 ha1 I W
      go_wp2_with (at_builtin; refine wpList_append_en _ rfl _ _ rfl w1.heap.size _ [] rfl OWN.out _ A rfl (T1.out.keep ((Only.refl [] w1).alloc _)) (by have := HAB.out.2.1; simp; omega) (by simp) ?_)
      intro v2 w2 hown2 hgrow2 hnil2
      have P2 := Lib.hid (((Only.refl [] w1).alloc (.cells #[] 35)).grown hgrow2 (by simp [Value.ownBlock]))
      have W2 : Hid (w2.ownsRow w1.heap.size 35 2 v2 A.length (flat A)) := Lib.hid hown2
      have hs2 := P2.out.size
      have N2 : Hid (v2 ≠ .slice none 0 0) := Lib.hid (by simpa using hnil2)
      clear hown2 hgrow2 hnil2 OWN T1
      obtain ⟨s, hs⟩ : ∃ s, (j : Int) % 2 = s := ⟨_, rfl⟩
      have hsa : 0 ≤ s := by omega
      have hsb : s ≤ 1 := by omega
      obtain ⟨s2, hs2'⟩ : ∃ s2, s * -1 = s2 := ⟨_, rfl⟩
      have hsc : -1 ≤ s2 := by omega
      have hsd : s2 ≤ 0 := by omega
      obtain ⟨kk, hkk⟩ : ∃ kk, 3 + s2 = kk := ⟨_, rfl⟩
      have HK : Hid (kk = 2 ∨ kk = 3) := Lib.hid (by omega)
      go_wp2_with (at_builtin; refine wpList_append_en _ rfl _ _ rfl w1.heap.size _ A rfl (W2.out.alloc _) _ [(kk, 0)] rfl (en_new [(kk, 0)] (blk_alloc_new _ _) rfl) (by have := HAB.out.2.1; simp; omega) (by simp; omega) ?_)
      intro v3 w3 hown3 hgrow3 hnil3
      have P3 : Hid (Only [] w1 w3) := Lib.hid ((P2.out.alloc (.cells #[.int .i64 kk, .int .i64 0] 35)).grown hgrow3 (fun q hq => .inr ((W2.out.lt q hq).1)))
      have hs3 := P3.out.size
      have W3 : Hid (w3.ownsRow w1.heap.size 35 2 v3 (A ++ [(kk, 0)]).length (flat (A ++ [(kk, 0)]))) := Lib.hid (by rw [List.length_append]; exact hown3)
      have HCL : Hid ((A ++ [(kk, 0)]).length = t + 1) := Lib.hid (by have := HAB.out.2.1; simp; omega)
      obtain ⟨C, hC⟩ : ∃ C, C = A ++ [(kk, 0)] := ⟨_, rfl⟩
      rw [← hC] at W3 HCL
      have HC := Lib.hid hC
      clear hC
      have N3 : Hid (v3 ≠ .slice none 0 0) := Lib.hid (by first | exact hnil3 | (intro e; exact N2.out (hnil3.1 e).1))
      clear hown3 hgrow3 hnil3
      by_cases hcz : t = zc
      · subst hcz
        have htz : t = nz := by omega
        have DZ1 : Hid (En w3 (.slice (some ⟨g, 0, none⟩) (nz - t) 0) B) := Lib.hid (by have := (D1.out 0 (fun h => by omega)).keep P3.out; rwa [Nat.sub_self] at this)
        have DZ2 : Hid (En w3 (.slice (some ⟨g, 0, none⟩) 0 0) B) := Lib.hid (by have := DZ1.out; rwa [show nz - t = 0 by omega] at this)
        have DZ3 : Hid (En w3 (.slice (some ⟨g, t * 2, none⟩) (nz - t) 0) B) := Lib.hid (by have := (D1.out (t * 2) (fun h => by omega)).keep P3.out; rwa [Nat.sub_self] at this)
        clear htz
        go_wp2_with (at_builtin; refine wpList_append_en _ rfl _ _ rfl w1.heap.size _ C rfl W3.out _ B rfl (by first | exact DZ1.out | exact DZ2.out | exact DZ3.out) (by have := HCL.out; have := HAB.out.2.2; omega) (by omega) ?_)
        intro v4 w4 hown4 hgrow4 hnil4
        have P4 := Lib.hid (P3.out.grown hgrow4 (fun q hq => .inr (W3.out.lt q hq).1))
        have hs4 := P4.out.size
        have W4 : Hid (w4.ownsRow w1.heap.size 35 2 v4 (C ++ B).length (flat (C ++ B))) := Lib.hid (by rw [List.length_append]; exact hown4)
        have N4 : Hid (v4 ≠ .slice none 0 0) := Lib.hid (by first | exact hnil4 | (intro e; exact N3.out (hnil4.1 e).1) | (intro e; exact N3.out (hnil4 e).1))
        clear hown4 hgrow4 hnil4
        go_wp2_with fail
        go_roundw
        case rel => exact ⟨j + 1, C ++ B, by omega, by omega, by go_num, owns_mono W4.out (by omega), N4.out, by have := HCL.out; have := HAB.out.2.2; have := HLen.out; have := HNZ.out; simp; omega, by rw [HC.out, roundsI_skip k A B (kk, 0) HK.out, HAB.out.1]; exact HQ2.out, I1.out.keep P4.out, P1.out.then0 P4.out, by omega⟩
        case measure => simp [intOf]; omega
      · have hcz2 : t < zc := by omega
        go_wp2_with (at_builtin; refine wpList_append_en _ rfl _ _ rfl w1.heap.size _ C rfl W3.out _ B rfl ((D1.out _ (fun _ => rfl)).keep P3.out) (by have := HCL.out; have := HAB.out.2.2; omega) (by omega) ?_)
        intro v4 w4 hown4 hgrow4 hnil4
        have P4 := Lib.hid (P3.out.grown hgrow4 (fun q hq => .inr (W3.out.lt q hq).1))
        have hs4 := P4.out.size
        have W4 : Hid (w4.ownsRow w1.heap.size 35 2 v4 (C ++ B).length (flat (C ++ B))) := Lib.hid (by rw [List.length_append]; exact hown4)
        have N4 : Hid (v4 ≠ .slice none 0 0) := Lib.hid (by first | exact hnil4 | (intro e; exact N3.out (hnil4.1 e).1) | (intro e; exact N3.out (hnil4 e).1))
        clear hown4 hgrow4 hnil4
        go_wp2_with fail
        go_roundw
        case rel => exact ⟨j + 1, C ++ B, by omega, by omega, by go_num, owns_mono W4.out (by omega), N4.out, by have := HCL.out; have := HAB.out.2.2; have := HLen.out; have := HNZ.out; simp; omega, by rw [HC.out, roundsI_skip k A B (kk, 0) HK.out, HAB.out.1]; exact HQ2.out, I1.out.keep P4.out, P1.out.then0 P4.out, by omega⟩
        case measure => simp [intOf]; omega
    · have hex : (j < ni ∧ (10 : Int) ≤ (j : Int)) ∨ ¬ j < ni := by omega
      have ZE := Lib.hid (en_owns W.out).1
      have HZ2 : Hid (Z.length ≤ 1000000) := Lib.hid (by have := HNZ.out; omega)
      clear hgo
      rcases hex with ⟨hlt, h10⟩ | hlt
      all_goals
        go_wp2_with fail
        refine (rounds_any _ _ Z k (by rw [HNZ.out]; exact ZE.out) HZ2.out (by omega)).mono ?_; rintro e w1 ⟨rfl, o1⟩
        have P1 := Lib.hid (P.out.then0 o1)
        rw [HQ2.out]
        clear o1
        go_wp2_with fail
        go_ret
        exact ⟨rfl, P1.out⟩

theorem ScriptMore_any (w : World) (xb : List Int) (vb : Value) (hb : By w vb xb) (wb : ∀ z ∈ xb, (Lit.int .u8 z).wf = true) (lb : xb.length ≤ 9223372036854775807) (xc : List Int) (vc : Value) (hc : By w vc xc) (wc : ∀ z ∈ xc, (Lit.int .u8 z).wf = true) (lc : xc.length ≤ 9223372036854775807) (m : Int)
    (xi : List Int) (vi : Value) (hi : Ns w vi xi) (wi : ∀ z ∈ xi, (Lit.int .i64 z).wf = true) (li : xi.length ≤ 9223372036854775807) :
    Calls Try.prog 5 #[vb, vc, .int .i64 m, vi] w fun e w' => e = .returned (.bool true) ∧ Only [] w w' := by
  have Hb := Lib.hid hb
  have Hc := Lib.hid hc
  have Hi := Lib.hid hi
  obtain ⟨ao, cap, rfl, _⟩ := hb
  obtain ⟨co, cap2, rfl, _⟩ := hc
  obtain ⟨io, cap3, rfl, _⟩ := hi
  by_cases h : xb.length ≤ 400 ∧ xi.length ≤ 400 ∧ xc.length ≤ 400
  · exact ScriptMore_small w ao cap _ co cap2 _ m io cap3 _ h.1 h.2.1 h.2.2 xb xc xi Hb Hc Hi (Lib.hid rfl) (Lib.hid rfl) (Lib.hid rfl) (Lib.hid wb) (Lib.hid wc)
  · exact ScriptMore_big w ao cap _ lb co cap2 _ lc m io cap3 _ li h
end Go.Proofs.Ytfhmphbfngdkeaa
