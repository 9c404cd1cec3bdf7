/- The reference's pure functions by types. No condition. -/
import Derived.Test.YtncnepmgmphanaaGreatDoorMg06
import Derived.Deep.RegionHeld3
import Derived.Deep.QuietTactic
import Derived.Deep.DeepCutAuto
import Derived.Deep.CutBlock
set_option linter.unusedVariables false
set_option linter.unusedSimpArgs false
set_option linter.unusedSectionVars false
namespace Go.Proofs.YtncnepmgmphanaaGreatDoor
open Go.RowKit
variable {sh : Sh} {B : Nat} {G : World → Prop}
theorem no_post {cx : Cx} {w : World} {N : Nat} : HOK kd cx w B N [] := fun _ _ _ _ h => by cases h
theorem tc_pure {P : Program} {f : FuncId} {s : FSig} (h : ∀ (N : Nat) (w : World) (args : Array Value) (cx : Cx), args.size = s.ps.length → (∀ (i : Nat) (t : AT), s.ps[i]? = some t → ∃ v, args[i]? = some v ∧ ATok kd cx w B N t v) →
    Calls P f args w fun e w' => ∃ v, e = .returned v ∧ (∃ q, w' = w.drewN q) ∧ ATok kd cx w B N s.res v) (hpost : s.post = [] := by rfl) : TC P kd sh B G f s := by
  intro N w args ha hB hl hw hG hp _hpre
  refine (h N w args _ ha hp).mono ?_
  rintro e w' ⟨v, rfl, ⟨q, rfl⟩, hv⟩
  exact ⟨v, rfl, (hw.mono (Nat.le_add_right _ _)).drewN q, (Eff.refl _ _).drewN q, hv.mono ((Eff.refl (fun _ _ _ => False) w).drewN q) (Nat.le_add_right _ _), by rw [hpost]; exact no_post⟩
theorem args1 {args : Array Value} (h : args.size = 1) : ∃ a, args = #[a] := by
  obtain ⟨l⟩ := args
  match l, h with
  | [a], _ => exact ⟨a, rfl⟩
theorem args2 {args : Array Value} (h : args.size = 2) : ∃ a b, args = #[a, b] := by
  obtain ⟨l⟩ := args
  match l, h with
  | [a, b], _ => exact ⟨a, b, rfl⟩
theorem args3 {args : Array Value} (h : args.size = 3) : ∃ a b c, args = #[a, b, c] := by
  obtain ⟨l⟩ := args
  match l, h with
  | [a, b, c], _ => exact ⟨a, b, c, rfl⟩
theorem arg_at {kd : Kd} {cx : Cx} {w : World} {N i : Nat} {ps : List AT} {args : Array Value} {t : AT} {a : Value} (hp : ∀ (i : Nat) (t : AT), ps[i]? = some t → ∃ v, args[i]? = some v ∧ ATok kd cx w B N t v) (h1 : ps[i]? = some t) (h2 : args[i]? = some a) : ATok kd cx w B N t a := by
  obtain ⟨v, e, hv⟩ := hp i t h1
  rw [h2] at e
  cases e
  exact hv
theorem i64_bd {n : Int} (h : inK .i64 n) : -9223372036854775808 ≤ n ∧ n ≤ 9223372036854775807 := by
  have e1 : IntKind.i64.min = -9223372036854775808 := by decide
  have e2 : IntKind.i64.max = 9223372036854775807 := by decide
  unfold inK at h; rw [e1, e2] at h; exact h
theorem i64_in {n : Int} (h : -9223372036854775808 ≤ n ∧ n ≤ 9223372036854775807) : inK .i64 n := by
  have e1 : IntKind.i64.min = -9223372036854775808 := by decide
  have e2 : IntKind.i64.max = 9223372036854775807 := by decide
  unfold inK; rw [e1, e2]; exact h
theorem u64_bd {n : Int} (h : inK .u64 n) : 0 ≤ n ∧ n ≤ 18446744073709551615 := by
  have e1 : IntKind.u64.min = 0 := by decide
  have e2 : IntKind.u64.max = 18446744073709551615 := by decide
  unfold inK at h; rw [e1, e2] at h; exact h
theorem u64_in {n : Int} (h : 0 ≤ n ∧ n ≤ 18446744073709551615) : inK .u64 n := by
  have e1 : IntKind.u64.min = 0 := by decide
  have e2 : IntKind.u64.max = 18446744073709551615 := by decide
  unfold inK; rw [e1, e2]; exact h
theorem power_all (z : Int) (hz : inK .i64 z) (w : World) : Calls Tryz.prog 137 #[.int .i64 z] w fun e w' => ∃ u, e = .returned (.int .u64 u) ∧ inK .u64 u ∧ w' = w := by
  have hz1 := (i64_bd hz).2
  clear hz
  go_enter Tryz.func137, Tryz.ntmps137
  go_wp2_with fail
  go_loop [0, 3] (fun t y => ∃ (j y' : Int), t = .int .i64 j ∧ j ≤ 9223372036854775807 ∧ y = .int .u64 y' ∧ inK .u64 y') (fun t _ => (intOf t).toNat)
  case atStart => exact ⟨z, 1, rfl, hz1, rfl, u64_in (by omega)⟩
  case round =>
    obtain ⟨j, y, rfl, hj1, rfl, hy⟩ := hrel
    have HY := Lib.hid hy
    clear hy
    by_cases hj : 0 < j
    · obtain ⟨v, hv⟩ : ∃ v, v = IntKind.u64.wrap (y * 2) := ⟨_, rfl⟩
      have e1 : IntKind.u64.wrap (y * 2) = v := hv.symm
      have HV : Hid (inK .u64 v) := Lib.hid (by rw [hv]; exact wrap_inK _ _)
      clear hv
      have e2 : IntKind.i64.wrap (j - 1) = j - 1 := IntWalk.i64_in _ (by omega)
      go_wp2_with fail
      go_round
      case rel => exact ⟨j - 1, v, rfl, by omega, rfl, HV.out⟩
      case measure => simp [intOf]; omega
    · go_wp2_with fail
      go_ret
      exact ⟨y, rfl, HY.out, rfl⟩
theorem bit_all (x z : Int) (hx : inK .u64 x) (hz : inK .i64 z) (w : World) : Calls Tryz.prog 139 #[.int .u64 x, .int .i64 z] w fun e w' => ∃ b, e = .returned (.bool b) ∧ w' = w := by
  by_cases h : 0 ≤ z ∧ z < 64
  · obtain ⟨n, rfl⟩ : ∃ n : Nat, x = n := ⟨x.toNat, by have := u64_bd hx; omega⟩
    obtain ⟨i, rfl⟩ : ∃ n : Nat, z = n := ⟨z.toNat, by omega⟩
    exact (bit_in n i w (by have := u64_bd hx; omega) (by omega)).mono (by rintro e w' ⟨rfl, rfl⟩; exact ⟨_, rfl, rfl⟩)
  · clear hx hz
    by_cases h0 : 0 ≤ z
    · have h1 : 64 ≤ z := by omega
      go_enter Tryz.func139, Tryz.ntmps139
      go_wp2_with fail
      go_ret
      exact ⟨.inl rfl, rfl⟩
    · go_enter Tryz.func139, Tryz.ntmps139
      go_wp2_with fail
      go_ret
      exact ⟨.inl rfl, rfl⟩
theorem hiI_bd {x : Nat} (h : x < 18446744073709551616) : -1 ≤ hiI x ∧ hiI x ≤ 63 := by
  have : Lib.bitLen x ≤ 64 := by
    rcases Nat.eq_zero_or_pos x with h0 | h0
    · subst h0; decide
    · exact Lib.bitLen_le x 64 (by decide) h
  unfold hiI
  omega
theorem nthI_bd (x : Nat) (n : Int) : -1 ≤ nthI x n ∧ nthI x n ≤ 63 := by
  unfold nthI
  split
  · rename_i k hf
    have h2 := List.mem_of_find?_eq_some hf
    simp at h2
    omega
  · omega
theorem tc_power : TC Tryz.prog kd sh B G 137 sg_power := tc_pure fun N w args cx ha hp => by
  obtain ⟨a, rfl⟩ := args1 ha
  obtain ⟨z, rfl, hz⟩ := arg_at hp (i := 0) rfl rfl
  exact (power_all z hz w).mono (by rintro e w' ⟨u, rfl, hu, rfl⟩; exact ⟨_, rfl, ⟨0, rfl⟩, u, rfl, hu⟩)
theorem tc_Bit : TC Tryz.prog kd sh B G 139 sg_Bit := tc_pure fun N w args cx ha hp => by
  obtain ⟨a, b, rfl⟩ := args2 ha
  obtain ⟨x, rfl, hx⟩ := arg_at hp (i := 0) rfl rfl
  obtain ⟨z, rfl, hz⟩ := arg_at hp (i := 1) rfl rfl
  exact (bit_all x z hx hz w).mono (by rintro e w' ⟨u, rfl, rfl⟩; exact ⟨_, rfl, ⟨0, rfl⟩, u, rfl⟩)
theorem tc_High : TC Tryz.prog kd sh B G 98 sg_High := tc_pure fun N w args cx ha hp => by
  obtain ⟨a, rfl⟩ := args1 ha
  obtain ⟨x, rfl, hx⟩ := arg_at hp (i := 0) rfl rfl
  have hb := u64_bd hx
  obtain ⟨n, rfl⟩ : ∃ n : Nat, x = n := ⟨x.toNat, by omega⟩
  have h1 := hiI_bd (x := n) (by omega)
  exact (refHigh_any n w (by omega)).mono (by rintro e w' ⟨rfl, rfl⟩; exact ⟨_, rfl, ⟨0, rfl⟩, _, rfl, i64_in (by omega)⟩)
theorem tc_Nth : TC Tryz.prog kd sh B G 172 sg_Nth := tc_pure fun N w args cx ha hp => by
  obtain ⟨a, b, rfl⟩ := args2 ha
  obtain ⟨x, rfl, hx⟩ := arg_at hp (i := 0) rfl rfl
  obtain ⟨z, rfl, hz⟩ := arg_at hp (i := 1) rfl rfl
  have hb := u64_bd hx
  have hc := i64_bd hz
  obtain ⟨n, rfl⟩ : ∃ n : Nat, x = n := ⟨x.toNat, by omega⟩
  have h1 := nthI_bd n z
  exact (refNth_any n z w (by omega) hc.1 hc.2).mono (by rintro e w' ⟨rfl, rfl⟩; exact ⟨_, rfl, ⟨0, rfl⟩, _, rfl, i64_in (by omega)⟩)
theorem tc_Draw : TC Tryz.prog kd sh B G 26 sg_Draw := tc_pure fun N w args cx ha hp => by
  obtain ⟨a, b, rfl⟩ := args2 ha
  obtain ⟨d, rfl, hd⟩ := arg_at hp (i := 0) rfl rfl
  obtain ⟨n, rfl, hn⟩ := arg_at hp (i := 1) rfl rfl
  have h1 := drw_bd d n
  have h2 := i64_bd hn
  exact (refDraw_any n d w h2.2).mono (by
    rintro e w' ⟨rfl, rfl⟩
    refine ⟨_, rfl, ⟨0, rfl⟩, _, rfl, i64_in ⟨by omega, ?_⟩⟩
    rcases Int.lt_or_le n 1 with h3 | h3
    · rw [drw_lt h3]; omega
    · have := h1.2 h3; omega)
end Go.Proofs.YtncnepmgmphanaaGreatDoor

namespace Go.Proofs.YtncnepmgmphanaaGreatDoor
open Go.RowKit
variable {sh : Sh} {B : Nat} {G : World → Prop}
theorem mixed : Tryz.prog.follows .mixedOrders = true := by kernel_rfl
def sg_ClassP : FSig := ⟨[.v (.c (.int .i64)), .pos .i64, .v (.c (.int .i64))], .v (.c (.int .i64)), [], 0, [], []⟩
theorem chk_Class : fnChk Tryz.prog kd evE (ftLook []) prot Tryz.f154 sg_ClassP = true := by kernel_rfl
theorem tc_Class (hev : EvG sh G) (hS : Safe kd prot G) : TC Tryz.prog kd sh B G 154 sg_Class := by
  intro N w args ha hB hl hw hG hp _hpre
  obtain ⟨a, b, c, rfl⟩ := args3 ha
  obtain ⟨x, rfl, hx⟩ := arg_at hp (i := 0) rfl rfl
  obtain ⟨y, rfl, hy⟩ := arg_at hp (i := 1) rfl rfl
  obtain ⟨z, rfl, hz⟩ := arg_at hp (i := 2) rfl rfl
  by_cases h : 0 < y
  · have hT : TC Tryz.prog kd sh B G 154 sg_ClassP := fn_sound Tryz.func154 chk_Class hft_nil hev hS mixed
    refine (hT N w #[.int .i64 x, .int .i64 y, .int .i64 z] rfl hB hl hw hG (fun i t ht => ?_) (fun _ _ _ _ h => by cases h)).mono ?_
    · match i, ht with
      | 0, ht => cases ht; exact ⟨_, rfl, x, rfl, hx⟩
      | 1, ht => cases ht; exact ⟨_, rfl, y, rfl, hy, h⟩
      | 2, ht => cases ht; exact ⟨_, rfl, z, rfl, hz⟩
    · rintro e w' ⟨v, rfl, g1, g2, g3, -⟩
      refine ⟨v, rfl, g1, g2.mono fun k T j _ hc => ?_, g3, no_post⟩
      rcases hc with hc | ⟨i, o, hm, _⟩ | ⟨o, hm, _⟩
      · exact .inl hc
      · cases hm
      · cases hm
  · have hy1 : y < 1 := by omega
    clear hp hx hy hz h
    go_enter Tryz.func154, Tryz.ntmps154
    go_wp2_with fail
    go_ret
    exact ⟨_, rfl, hw.mono (Nat.le_add_right _ _), Eff.refl _ _, ⟨0, rfl, i64_in (by omega)⟩, no_post⟩
def sg_powerS : FSig := ⟨[.sm .i64], .pos .u64, [], 0, [], []⟩
theorem tc_powerS : TC Tryz.prog kd sh B G 137 sg_powerS := tc_pure fun N w args cx ha hp => by
  obtain ⟨a, rfl⟩ := args1 ha
  obtain ⟨z, rfl, hz, h1, h2⟩ := arg_at hp (i := 0) rfl rfl
  obtain ⟨n, rfl⟩ : ∃ n : Nat, z = n := ⟨z.toNat, by omega⟩
  have h3 := pow_lt64 (j := n) (by omega)
  have h4 := Nat.two_pow_pos n
  exact (power_any n w (by omega)).mono (by rintro e w' ⟨rfl, rfl⟩; exact ⟨_, rfl, ⟨0, rfl⟩, _, rfl, u64_in (by omega), by omega⟩)
def ft_powerS : List (Nat × FSig) := [(137, sg_powerS)]
theorem chk_Unpack : fnChk Tryz.prog kd evE (ftLook ft_powerS) prot Tryz.f143 sg_Unpack = true := by kernel_rfl
theorem call_power : Callable Tryz.prog 137 := callable_of Tryz.func137 (by kernel_rfl) (by kernel_rfl)
theorem tc_Unpack (hev : EvG sh G) (hS : Safe kd prot G) : TC Tryz.prog kd sh B G 143 sg_Unpack :=
  fn_sound Tryz.func143 chk_Unpack (hft_cons call_power tc_powerS hft_nil) hev hS mixed
end Go.Proofs.YtncnepmgmphanaaGreatDoor

namespace Go.Proofs.YtncnepmgmphanaaGreatDoor
open Go.RowKit
variable {sh : Sh} {B : Nat} {G : World → Prop}
theorem allOK_nil {w : World} {B N : Nat} {l : List Value} (h : AllOK w B N [] l) : l = [] := by
  cases l with
  | nil => rfl
  | cons a b => exact h.elim
theorem allOK_cons {w : World} {B N : Nat} {k : CK} {L : List CK} {l : List Value} (h : AllOK w B N (k :: L) l) : ∃ v r, l = v :: r ∧ CellOK w B N k v ∧ AllOK w B N L r := by
  cases l with
  | nil => exact h.elim
  | cons a b => exact ⟨a, b, rfl, h.1, h.2⟩
set_option maxRecDepth 100000 in
set_option maxHeartbeats 1000000 in
theorem ring_all (w : World) (t b r c i : Int) (hc : c ≤ 9223372036854775807) : Calls Tryz.prog 135 #[.agg #[.int .i64 t, .int .i64 b, .int .i64 r, .int .i64 c], .int .u64 i] w fun e w' =>
    ∃ z, e = .returned (.int .i64 z) ∧ inK .i64 z ∧ ∃ q, w' = (w.alloc (.cells #[.int .i64 t, .int .i64 b, .int .i64 r, .int .i64 c] 116)).drewN q := by
  by_cases h : c < 1
  · clear hc
    go_enter Tryz.func135, Tryz.ntmps135
    go_wp2_with fail
    go_ret
    exact ⟨-1, rfl, i64_in (by omega), 0, rfl⟩
  · obtain ⟨c0, hc0⟩ : ∃ c0 : Bool, c0 = (c == 0) := ⟨_, rfl⟩
    have e1 : IntKind.u64.wrap c = c := by rw [IntKind.wrap_u64]; omega
    have hc1 : (c == 0) = false := by simp; omega
    have hc2 : c ≠ 0 := by omega
    go_enter Tryz.func135, Tryz.ntmps135
    go_wp2_with fail
    have hb := blk_alloc_new w (.cells #[.int .i64 t, .int .i64 b, .int .i64 r, .int .i64 c] 116)
    have c2 : (w.alloc (.cells #[.int .i64 t, .int .i64 b, .int .i64 r, .int .i64 c] 116)).cell? ⟨w.heap.size, 2, none⟩ = some (.int .i64 r) := (cell_blk hb 2).trans rfl
    have c3 : (w.alloc (.cells #[.int .i64 t, .int .i64 b, .int .i64 r, .int .i64 c] 116)).cell? ⟨w.heap.size, 3, none⟩ = some (.int .i64 c) := (cell_blk hb 3).trans rfl
    have C2 := Lib.hid c2
    have C3 := Lib.hid c3
    clear c2 c3
    obtain ⟨z1, hz1⟩ : ∃ z, z = IntKind.i64.wrap (i.tmod c) := ⟨_, rfl⟩
    obtain ⟨z2, hz2⟩ : ∃ z, z = IntKind.i64.wrap (r + z1) := ⟨_, rfl⟩
    have w1 : IntKind.i64.wrap (i.tmod c) = z1 := hz1.symm
    have w2 : IntKind.i64.wrap (r + z1) = z2 := hz2.symm
    have HZ : Hid (inK .i64 z2) := Lib.hid (by rw [hz2]; exact wrap_inK _ _)
    clear hz1 hz2 hb
    go_region_held3 (fun w' => w'.cell? ⟨w.heap.size, 2, none⟩ = some (.int .i64 r) ∧ w'.cell? ⟨w.heap.size, 3, none⟩ = some (.int .i64 c)) (exact ⟨C2.out, C3.out⟩) (fail)
    go_wp2_with fail
    go_ret
    exact ⟨z2, rfl, HZ.out, 1, rfl⟩
theorem tc_Ring : TC Tryz.prog kd sh B G 135 sg_Ring := by
  intro N w args ha hB hl hw hG hp _hpre
  obtain ⟨a, b, rfl⟩ := args2 ha
  obtain ⟨cs, rfl, hcs⟩ := arg_at hp (i := 0) rfl rfl
  obtain ⟨i, rfl, hi⟩ := arg_at hp (i := 1) rfl rfl
  have hrow := RowsOK.one hcs
  obtain ⟨v0, l0, rfl, ⟨t, rfl, ht⟩, g0⟩ := allOK_cons hcs
  obtain ⟨v1, l1, rfl, ⟨b, rfl, hb⟩, g1⟩ := allOK_cons g0
  obtain ⟨v2, l2, rfl, ⟨r, rfl, hr⟩, g2⟩ := allOK_cons g1
  obtain ⟨v3, l3, rfl, ⟨c, rfl, hc⟩, g3⟩ := allOK_cons g2
  obtain rfl := allOK_nil g3
  refine (ring_all w t b r c i (i64_bd hc).2).mono ?_
  rintro e w' ⟨z, rfl, hz, q, rfl⟩
  refine ⟨_, rfl, WT.drewN (WT.alloc (hw.mono (Nat.le_add_right _ _)) (T := 116) (L := cs_api_Queue) rfl (hrow.mono (Eff.refl (fun _ _ _ => False) w) (Nat.le_add_right _ _))) q, ((Eff.refl _ _).alloc _).drewN q, ⟨z, rfl, hz⟩, no_post⟩
end Go.Proofs.YtncnepmgmphanaaGreatDoor

namespace Go.Proofs.YtncnepmgmphanaaGreatDoor
open Go.RowKit
variable {sh : Sh} {B : Nat} {G : World → Prop}
theorem env_cells {w : World} {N : Nat} {cx : Cx} {v : Value} (hw : WT kd.sig B N w) (hx : ATok kd cx w B N (.ptr 66 11 .env) v) {pe : Nat} (hpe : cx.pe = pe) : v = .pointer (some ⟨pe, 11, none⟩) ∧ ∃ c : Array Value, B ≤ pe ∧ w.heap[pe]? = some (.cells c 66 (0, 0)) ∧ 21 ≤ c.size ∧ RowsOK w B N cs_r08_Env c := by
  obtain ⟨b, r, rfl, -, ⟨c, h1, h2, h3⟩, h4, rfl⟩ := hx
  rw [hpe] at h4
  subst h4
  refine ⟨?_, c, h1, h2, ?_, ?_⟩
  · simp
  · have : kd.sz 66 = 21 := by kernel_rfl
    rw [this] at h3; omega
  · exact hw.rows (T := 66) (L := cs_r08_Env) (by kernel_rfl) h1 h2
theorem in_yes (w : World) (b : Nat) (ao : Option Addr) (n cap : Nat) (z : Int) (hc : w.cell? ⟨b, 11, none⟩ = some (.slice ao n cap)) (hz : 0 ≤ z ∧ z < n) : Calls Tryz.prog 170 #[.pointer (some ⟨b, 11, none⟩), .int .i64 z] w fun e w' => e = .returned (.bool true) ∧ w' = w := by
  obtain ⟨h1, h2⟩ := hz
  go_enter Tryz.func170, Tryz.ntmps170
  go_wp2_with fail
  go_ret
  exact ⟨rfl, rfl⟩
theorem in_no (w : World) (b : Nat) (ao : Option Addr) (n cap : Nat) (z : Int) (hc : w.cell? ⟨b, 11, none⟩ = some (.slice ao n cap)) (hz : ¬ (0 ≤ z ∧ z < n)) : Calls Tryz.prog 170 #[.pointer (some ⟨b, 11, none⟩), .int .i64 z] w fun e w' => e = .returned (.bool false) ∧ w' = w := by
  by_cases h1 : 0 ≤ z
  · have h2 : (n : Int) ≤ z := by omega
    clear hz
    go_enter Tryz.func170, Tryz.ntmps170
    go_wp2_with fail
    go_ret
    exact ⟨ret_bool (decide_eq_false (by omega)), rfl⟩
  · clear hz
    go_enter Tryz.func170, Tryz.ntmps170
    go_wp2_with fail
    go_ret
    exact ⟨rfl, rfl⟩
theorem bits_inK (op : BinOp) (k : IntKind) (x y : Int) : inK k (bits op k x y) := by
  unfold bits
  exact wrap_inK _ _
set_option maxRecDepth 100000 in
set_option maxHeartbeats 2000000 in
theorem access_in (w : World) (b g n cap zn : Nat) (kind v x old cnt l0 l1 l2 l3 : Int) (hne : b ≠ g) (hz : zn < n) (hx : inK .u64 x) (hv : inK .u64 v) (ho : inK .u64 old) (hb : ∃ c, w.heap[b]? = some (.cells c 66 (0, 0))) (hg : ∃ c, w.heap[g]? = some (.cells c 59 (0, 0)))
    (h11 : w.cell? ⟨b, 11, none⟩ = some (.slice (some ⟨g, 0, none⟩) n cap)) (hc : w.cell? ⟨g, zn, none⟩ = some (.int .u64 old)) (h12 : w.cell? ⟨b, 12, none⟩ = some (.int .i64 l0)) (h13 : w.cell? ⟨b, 13, none⟩ = some (.int .i64 l1)) (h14 : w.cell? ⟨b, 14, none⟩ = some (.int .u64 l2)) (h15 : w.cell? ⟨b, 15, none⟩ = some (.int .u64 l3)) (h16 : w.cell? ⟨b, 16, none⟩ = some (.int .i64 cnt)) :
    Calls Tryz.prog 136 #[.pointer (some ⟨b, 11, none⟩), .int .i64 kind, .int .i64 zn, .int .u64 v, .int .u64 x] w fun e w' =>
      ∃ (now : Int) (ok : Bool) (cn : Int), inK .u64 now ∧ inK .i64 cn ∧ e = .returned (.tuple #[.int .u64 old, .bool ok]) ∧ w' = (((((w.setCell ⟨g, zn, none⟩ (.int .u64 now)).setCell ⟨b, 12, none⟩ (.int .i64 kind)).setCell ⟨b, 13, none⟩ (.int .i64 zn)).setCell ⟨b, 14, none⟩ (.int .u64 old)).setCell ⟨b, 15, none⟩ (.int .u64 now)).setCell ⟨b, 16, none⟩ (.int .i64 cn) := by
  obtain ⟨cb, hb⟩ := hb
  obtain ⟨cg, hg⟩ := hg
  have f12 := free_blk hb 12
  have f13 := free_blk hb 13
  have f14 := free_blk hb 14
  have f15 := free_blk hb 15
  have f16 := free_blk hb 16
  have fg := free_blk hg zn
  have IN := Lib.hid (in_yes w b _ n cap zn h11 ⟨by omega, by omega⟩)
  have HX := Lib.hid hx
  have HV := Lib.hid hv
  have HO := Lib.hid ho
  obtain ⟨c1, hc1⟩ : ∃ z, z = IntKind.i64.wrap (cnt + 1) := ⟨_, rfl⟩
  have e1 : IntKind.i64.wrap (cnt + 1) = c1 := hc1.symm
  have HC1 : Hid (inK .i64 c1) := Lib.hid (by rw [hc1]; exact wrap_inK _ _)
  have hz0 : (0 : Int) ≤ (zn : Int) := by omega
  have hz1 : (zn : Int) < (n : Int) := by omega
  clear hb hg hx hv ho hc1
  go_enter Tryz.func136, Tryz.ntmps136
  go_wp2_with fail
  refine IN.out.mono ?_; rintro e w' ⟨rfl, rfl⟩
  go_upto_block 0 with fail
  go_cut [13, 14] (fun s13 s14 wx => wx = w' ∧ ∃ (now : Int) (ok : Bool), s13 = .int .u64 now ∧ inK .u64 now ∧ s14 = .bool ok)
  case first =>
    go_wp2_with fail
    all_goals go_meet
    all_goals refine ⟨rfl, _, _, rfl, ?_, rfl⟩
    · exact HV.out
    · exact HX.out
    · exact HO.out
    · exact bits_inK _ _ _ _
    · exact bits_inK _ _ _ _
    · exact wrap_inK _ _
    · exact HO.out
  case rest =>
    obtain ⟨rfl, now, ok, rfl, hnow, rfl⟩ := hcut
    have HN := Lib.hid hnow
    clear hnow
    go_wp2_with fail
    go_ret2
    exact ⟨now, ok, c1, HN.out, HC1.out, rfl, rfl⟩
theorem rows_int {w : World} {B N : Nat} {L : List CK} {c : Array Value} (h : RowsOK w B N L c) {j : Nat} {k : IntKind} (hj : j < c.size) (hk : L[j % L.length]? = some (.int k)) : ∃ n, c[j]? = some (.int k n) ∧ inK k n := by
  obtain ⟨ck, e, o⟩ := h.2 j c[j] (Array.getElem?_eq_getElem hj)
  rw [hk] at e
  cases e
  obtain ⟨n, e, hn⟩ := o
  exact ⟨n, by rw [Array.getElem?_eq_getElem hj, e], hn⟩
theorem set_ty {cx : Cx} {T b i N : Nat} {L : List CK} {c : Array Value} {ck : CK} {v : Value} {E : List EI} {w0 w : World} (hw : WT kd.sig B N w) (he : Eff (ChOf B kd cx E) w0 w) (hb : w.heap[b]? = some (.cells c T (0, 0))) (hT : kd.sig T = some L) (hck : L[i % L.length]? = some ck) (hv : CellOK w B N ck v) (hm : EI.ty T (i % L.length) ∈ E) (hBb : B ≤ b) :
    WT kd.sig B N (w.setCell ⟨b, i, none⟩ v) ∧ Eff (ChOf B kd cx E) w0 (w.setCell ⟨b, i, none⟩ v) ∧ (w.setCell ⟨b, i, none⟩ v).heap[b]? = some (.cells (c.setIfInBounds i v) T (0, 0)) :=
  ⟨hw.set hb hT hck hv, he.setT hb (.inl (.inr (.inr ⟨_, hm, by rw [Kd.sz_of hT], hBb⟩))), blk_setCell hb i v⟩
theorem access_out (w : World) (b : Nat) (ao : Option Addr) (n cap : Nat) (z kind v x : Int) (hc : w.cell? ⟨b, 11, none⟩ = some (.slice ao n cap)) (hz : ¬ (0 ≤ z ∧ z < n)) : Calls Tryz.prog 136 #[.pointer (some ⟨b, 11, none⟩), .int .i64 kind, .int .i64 z, .int .u64 v, .int .u64 x] w fun e w' => e = .returned (.tuple #[.int .u64 0, .bool false]) ∧ w' = w := by
  have IN := Lib.hid (in_no w b _ n cap z hc hz)
  clear hc hz
  go_enter Tryz.func136, Tryz.ntmps136
  go_wp2_with fail
  refine IN.out.mono ?_; rintro e w' ⟨rfl, rfl⟩
  go_wp2_with fail
  go_ret2
  exact ⟨rfl, rfl⟩
theorem tc_Access (hev : EvG sh G) (hS : Safe kd prot G) : TC Tryz.prog kd sh B G 136 sg_Access := by
  intro N w args ha hB hl hw hG hp _hpre
  obtain ⟨m, k, z, v, x, rfl⟩ : ∃ m k z v x, args = #[m, k, z, v, x] := by
    obtain ⟨l⟩ := args
    match l, ha with
    | [a, b, c, d, e], _ => exact ⟨a, b, c, d, e, rfl⟩
  have hm := arg_at hp (i := 0) rfl rfl
  obtain ⟨kind, rfl, hk⟩ := arg_at hp (i := 1) rfl rfl
  obtain ⟨z, rfl, hz⟩ := arg_at hp (i := 2) rfl rfl
  obtain ⟨v, rfl, hv⟩ := arg_at hp (i := 3) rfl rfl
  obtain ⟨x, rfl, hx⟩ := arg_at hp (i := 4) rfl rfl
  obtain ⟨rfl, c, h1, h2, h3, h4⟩ := env_cells (pe := sh.pe) hw hm rfl
  have hblk := fun j => cell_blk h2 j
  obtain ⟨ck, e, hsl⟩ := h4.2 11 c[11] (Array.getElem?_eq_getElem (by omega))
  cases e
  have h11 := hblk 11
  rw [Array.getElem?_eq_getElem (show 11 < c.size by omega)] at h11
  obtain ⟨n, xs, hn, hxl, hh⟩ := hsl
  by_cases hin : 0 ≤ z ∧ z < n
  · rcases hh with ⟨e1, rfl⟩ | ⟨g, cap, cur, e1, q1, q2, q3, q4, q5, q6⟩
    · omega
    · rw [e1] at h11
      obtain ⟨zn, rfl⟩ : ∃ n : Nat, z = n := ⟨z.toNat, by omega⟩
      have hzn : zn < cur.size := by rw [q5]; omega
      have hgr := hw.rows (T := 59) (L := [.int .u64]) (by kernel_rfl) q1 q2
      obtain ⟨old, ho1, ho2⟩ := rows_int (k := .u64) hgr hzn (by rw [show zn % List.length [CK.int .u64] = 0 from Nat.mod_one _]; rfl)
      have hne : sh.pe ≠ g := fun e => by
        rw [← e, h2] at q2
        injection q2 with q2
        injection q2 with _ q2 _
        exact absurd q2 (by decide)
      obtain ⟨l0, d0, -⟩ := rows_int (j := 12) h4 (by omega) rfl
      obtain ⟨l1, d1, -⟩ := rows_int (j := 13) h4 (by omega) rfl
      obtain ⟨l2, d2, -⟩ := rows_int (j := 14) h4 (by omega) rfl
      obtain ⟨l3, d3, -⟩ := rows_int (j := 15) h4 (by omega) rfl
      obtain ⟨cnt, d4, -⟩ := rows_int (j := 16) h4 (by omega) rfl
      refine (access_in w sh.pe g n cap zn kind v x old cnt l0 l1 l2 l3 hne (by omega) hx hv ho2 ⟨_, h2⟩ ⟨_, q2⟩ h11 ((cell_blk q2 zn).trans ho1) ((hblk 12).trans d0) ((hblk 13).trans d1) ((hblk 14).trans d2) ((hblk 15).trans d3) ((hblk 16).trans d4)).mono ?_
      rintro e w' ⟨now, ok, cn, k1, k2, rfl, rfl⟩
      have hEV : kd.sig 66 = some cs_r08_Env := by kernel_rfl
      have hU : kd.sig 59 = some [.int .u64] := by kernel_rfl
      have hb1 : (w.setCell ⟨g, zn, none⟩ (.int .u64 now)).heap[sh.pe]? = some (.cells c 66 (0, 0)) := by rw [blk_setCell_ne hne]; exact h2
      obtain ⟨w1, e1, -⟩ := set_ty (cx := cxOf kd sh sg_Access #[.pointer (some ⟨sh.pe, 11, none⟩), .int .i64 kind, .int .i64 zn, .int .u64 v, .int .u64 x] w) (E := effM) hw (Eff.refl _ _) q2 hU (i := zn) (ck := .int .u64) (v := .int .u64 now) (by rw [show zn % List.length [CK.int .u64] = 0 from Nat.mod_one _]; rfl) ⟨_, rfl, k1⟩ (by rw [show zn % List.length [CK.int .u64] = 0 from Nat.mod_one _]; decide +kernel) q1
      obtain ⟨w2, e2, b2⟩ := set_ty w1 e1 hb1 hEV (i := 12) (ck := .int .i64) (v := .int .i64 kind) rfl ⟨_, rfl, hk⟩ (by decide +kernel) h1
      obtain ⟨w3, e3, b3⟩ := set_ty w2 e2 b2 hEV (i := 13) (ck := .int .i64) (v := .int .i64 zn) rfl ⟨_, rfl, hz⟩ (by decide +kernel) h1
      obtain ⟨w4, e4, b4⟩ := set_ty w3 e3 b3 hEV (i := 14) (ck := .int .u64) (v := .int .u64 old) rfl ⟨_, rfl, ho2⟩ (by decide +kernel) h1
      obtain ⟨w5, e5, b5⟩ := set_ty w4 e4 b4 hEV (i := 15) (ck := .int .u64) (v := .int .u64 now) rfl ⟨_, rfl, k1⟩ (by decide +kernel) h1
      obtain ⟨w6, e6, b6⟩ := set_ty w5 e5 b5 hEV (i := 16) (ck := .int .i64) (v := .int .i64 cn) rfl ⟨_, rfl, k2⟩ (by decide +kernel) h1
      exact ⟨_, rfl, w6, e6, ⟨_, rfl, ⟨_, rfl, ho2⟩, ⟨_, rfl⟩, trivial⟩, no_post⟩
  · have hsl2 : ∃ ao cap, c[11] = .slice ao n cap := by
      rcases hh with ⟨e1, rfl⟩ | ⟨g, cap, cur, e1, _⟩
      · exact ⟨none, 0, e1⟩
      · exact ⟨_, cap, e1⟩
    obtain ⟨ao, cap, e1⟩ := hsl2
    rw [e1] at h11
    refine (access_out w sh.pe ao n cap z kind v x h11 hin).mono ?_
    rintro e w' ⟨rfl, rfl⟩
    exact ⟨_, rfl, hw, Eff.refl _ _, ⟨_, rfl, ⟨_, rfl, u64_in (by omega)⟩, ⟨_, rfl⟩, trivial⟩, no_post⟩
end Go.Proofs.YtncnepmgmphanaaGreatDoor
