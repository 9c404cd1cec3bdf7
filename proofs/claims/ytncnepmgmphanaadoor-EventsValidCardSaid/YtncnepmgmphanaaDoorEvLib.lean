/- What the library's variables hold, over every world that a call leaves; numerals. No condition. -/
import Derived.Test.YtncnepmgmphanaaDoorShelf
import Derived.Test.YtncnepmgmphanaaDoorEvBuild
import Derived.Test.YtncnepmgmphanaaDoorEvValid
import Derived.WalkSmall
import Derived.Lib.LaidTab
import Derived.Lib.ItoaNum
import Derived.Lib.AtoiAll
import Derived.Lib.AppendIntMem
import Derived.Lib.AtoiErrMem
namespace Go.Proofs.YtncnepmgmphanaaDoor
open Go.RowKit
set_option linter.unusedVariables false

/-- The library's variables: MaxLen, the powers of ten, the two errors. -/
structure LibAt (w : World) : Prop where
  m : ∃ m, w.cell? ⟨0, 0, none⟩ = some (.int .i64 m)
  tab : Lib.TabIs Tryd.prog w "internal/strconv.uint64pow10" .u64 Lib.pow10Tab
  syn : ∃ te pe, w.cell? ⟨1, 0, none⟩ = some (.iface te pe)
  rng : ∃ te pe, w.cell? ⟨2, 0, none⟩ = some (.iface te pe)

theorem LibAt.keep {S : List Nat} {w w' : World} (h : LibAt w) (o : Only S w w') (hS : ∀ b ∈ S, 20 ≤ b) : LibAt w' := by
  have hn : ∀ b, b < 20 → b ∉ S := fun b hb hm => by have := hS b hm; omega
  obtain ⟨m, hm⟩ := h.m
  obtain ⟨te, pe, hs⟩ := h.syn
  obtain ⟨tr, pr, hr⟩ := h.rng
  have hg : Tryd.prog.globalNamed "internal/strconv.uint64pow10" = some 3 := by kernel_rfl
  have hc := h.tab.cell hg 0 (by decide)
  have hl : 3 < w.heap.size := lt_of_cell hc
  refine ⟨⟨m, o.keepCell hm (hn _ (by decide))⟩, ?_, ⟨te, pe, o.keepCell hs (hn _ (by decide))⟩, ⟨tr, pr, o.keepCell hr (hn _ (by decide))⟩⟩
  have ht := h.tab
  unfold Lib.TabIs at ht ⊢
  unfold World.var? at ht ⊢
  rw [hg] at ht ⊢
  simp only [Option.bind_some] at ht ⊢
  rw [o.block _ hl (hn _ (by decide))]
  exact ht
theorem LibAt.keep0 {w w' : World} (h : LibAt w) (o : Only [] w w') : LibAt w' := h.keep o (by simp)

theorem only_of_below {w w' : World} (h : Below w.heap.size w w') : Only [] w w' := ⟨h.os, h.tape, h.output, h.size, fun k hk _ => h.block k hk⟩

/-- strconv.Itoa. -/
theorem itoa_any (w : World) (hL : LibAt w) (n : Int) (h0 : -9223372036854775808 ≤ n) (h1 : n ≤ 9223372036854775807) :
    Calls Tryd.prog 23 #[.int .i64 n] w fun e w' => e = .returned (.string ⟨(Lib.itoa n).toArray⟩) ∧ Only [] w w' :=
  (Tryd.strconv_Itoa n h0 h1 w hL.tab).mono (by
    rintro e w' ⟨rfl, k, os, rfl⟩
    exact ⟨rfl, only_of_below (Lib.below_grow _ _ (Nat.le_refl _) k os)⟩)

/-- strconv.Atoi: the number, and whether there is an error. -/
def atoiN (l : List UInt8) : Option Int := match Lib.atoiAll l with
  | .ok v => some v
  | _ => none

def AtoiPost (s : ByteArray) (w : World) (e : Ending) (w' : World) : Prop :=
  Only [] w w' ∧ ((∃ v, atoiN s.data.toList = some v ∧ e = .returned (.tuple #[.int .i64 v, .nilIface])) ∨ (atoiN s.data.toList = none ∧ ∃ v te p, e = .returned (.tuple #[.int .i64 v, .iface te p])))

theorem atoi_any (w : World) (hL : LibAt w) (s : ByteArray) (hs : s.size ≤ 281474976710656) : Calls Tryd.prog 26 #[.string s] w (AtoiPost s w) := by
  rcases h : Lib.atoiAll s.data.toList with v | _ | _
  · refine (Tryd.strconv_Atoi_ok s (by omega) v h w).mono ?_
    rintro e w' ⟨rfl, hw⟩
    refine ⟨?_, .inl ⟨v, by simp [atoiN, h], rfl⟩⟩
    rcases hw with rfl | ⟨t, rfl⟩
    · exact Only.refl _ _
    · exact only_of_below (Lib.bytesWorld_below _ _ _)
  · obtain ⟨te, pe, hc⟩ := hL.syn
    refine (Tryd.strconv_Atoi_syntax s hs h _ w hc (.inr ⟨te, pe, rfl⟩)).mono ?_
    rintro e w' ⟨N, rfl, -, -, hb⟩
    exact ⟨only_of_below hb, .inr ⟨by simp [atoiN, h], _, _, _, rfl⟩⟩
  · obtain ⟨te, pe, hc⟩ := hL.rng
    refine (Tryd.strconv_Atoi_range s hs h _ w hc (.inr ⟨te, pe, rfl⟩)).mono ?_
    rintro e w' ⟨N, rfl, -, -, hb⟩
    exact ⟨only_of_below hb, .inr ⟨by simp [atoiN, h], _, _, _, rfl⟩⟩

/-- strings.Cut at a line feed. -/
theorem cut_any (w : World) (hL : LibAt w) (s sep : ByteArray) (hs : s.size < 4294967281) :
    Calls Tryd.prog 20 #[.string s, .string sep] w fun e w' => e = .returned (.tuple #[.string ⟨(Lib.cut s.data.toList sep.data.toList).1.toArray⟩, .string ⟨(Lib.cut s.data.toList sep.data.toList).2.1.toArray⟩, .bool (Lib.cut s.data.toList sep.data.toList).2.2]) ∧ Only [] w w' := by
  obtain ⟨m, hm⟩ := hL.m
  refine (Tryd.strings_Cut s sep m w hs hm).mono ?_
  rintro e w' ⟨rfl, n, rfl⟩
  exact ⟨rfl, (Only.refl _ _).drewN n⟩

/-- strings.Split at a blank. -/
theorem split_any (w : World) (hL : LibAt w) (s sep : ByteArray) (hs : s.size < 4294967281) (h1 : 1 ≤ sep.size) :
    Calls Tryd.prog 25 #[.string s, .string sep] w fun e w' => ∃ b, e = .returned (.slice (some ⟨b, 0, none⟩) (Lib.splitB sep 0 (Lib.countB s sep) s).length (Lib.splitB sep 0 (Lib.countB s sep) s).length) ∧ w'.heap[b]? = some (.cells ((Lib.splitB sep 0 (Lib.countB s sep) s).map Value.string).toArray 9 (0, 0)) ∧ w.heap.size ≤ b ∧ Only [] w w' := by
  obtain ⟨m, hm⟩ := hL.m
  refine (Tryd.strings_Split s sep m w hs hm h1).mono ?_
  rintro e w' ⟨rfl, rfl⟩
  rw [Lib.splitB_all sep h1 0 _ s rfl]
  exact ⟨_, rfl, blk_alloc_new _ _, Nat.le_refl _, (Only.refl _ _).alloc _⟩
end Go.Proofs.YtncnepmgmphanaaDoor
