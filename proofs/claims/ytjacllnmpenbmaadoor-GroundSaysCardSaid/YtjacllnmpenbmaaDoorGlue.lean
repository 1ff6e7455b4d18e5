/- The library's functions that the ground calls, by the shelf's contracts: strings.Split at one space, strconv.Itoa below 256, strconv.Atoi. -/
import Derived.Test.YtjacllnmpenbmaaDoorShelf
import Derived.Test.YtjacllnmpenbmaaDoorBytes
import Derived.Test.YtjacllnmpenbmaaDoorGPlain
import Derived.Lib.SplitLaws
import Derived.Lib.AppendIntMem
namespace Go.Proofs.YtjacllnmpenbmaaDoor
open Go Go.RowKit

/-- What the library's own variables hold. -/
structure Glob (w : World) : Prop where
  ml : ∃ m, w.cell? ⟨2, 0, none⟩ = some (.int .i64 m)
  es : ∃ t p, w.cell? ⟨3, 0, none⟩ = some (.iface t p)
  er : ∃ t p, w.cell? ⟨4, 0, none⟩ = some (.iface t p)
  tab : Lib.TabIs Tryd.prog w "internal/strconv.uint64pow10" .u64 Lib.pow10Tab
theorem Glob.nob {w w' : World} (h : Glob w) (hm : Mod NoB w w') : Glob w' := by
  obtain ⟨⟨m, h1⟩, ⟨t, p, h2⟩, ⟨t', p', h3⟩, h4⟩ := h
  exact ⟨⟨m, hm.cell h1 (fun h => h)⟩, ⟨t, p, hm.cell h2 (fun h => h)⟩, ⟨t', p', hm.cell h3 (fun h => h)⟩, Lib.tabBelow_of_tabIs h4 _ (hm.below (Nat.le_refl _) (fun _ _ h => h))⟩

theorem split_walk (w : World) (hg : Glob w) (s : ByteArray) (hs : s.size ≤ 1000) :
    Calls Tryd.prog 14 #[.string s, .string ⟨#[32]⟩] w fun e w' => ∃ ps : List ByteArray, e = .returned (.slice (some ⟨w.heap.size, 0, none⟩) ps.length ps.length) ∧ ps.map (·.data.toList) = splitL s.data.toList ∧ Blk w' w.heap.size 9 (ps.map Value.string) ∧ Mod NoB w w' := by
  obtain ⟨m, hm⟩ := hg.ml
  refine (Tryd.strings_Split s ⟨#[32]⟩ m w (by omega) hm (by decide)).mono ?_
  rintro e w' ⟨rfl, rfl⟩
  have hl := Lib.splitB_all ⟨#[32]⟩ (by decide) 0 _ s rfl
  exact ⟨_, by rw [hl], splitB_splitL s, Blk.new w _ _, (Mod.refl _ w).alloc _⟩

theorem grow_mod (w : World) (k : Nat) (os : Array Obj) : Mod NoB w (Sort.grow (w.drewN k) os) :=
  ⟨rfl, rfl, rfl, by simp [Sort.grow], fun j hj _ => by
    show ((w.drewN k).heap ++ os)[j]? = _
    exact Array.getElem?_append_left hj⟩
theorem itoa_walk (w : World) (hg : Glob w) (n : Int) (h0 : 0 ≤ n) (hn : n < 256) : Calls Tryd.prog 26 #[.int .i64 n] w fun e w' => e = .returned (.string ⟨(Lib.decDigits n.toNat).toArray⟩) ∧ Mod NoB w w' := by
  refine (Tryd.strconv_Itoa n (by omega) (by omega) w hg.tab).mono ?_
  rintro e w' ⟨rfl, k, os, rfl⟩
  refine ⟨?_, grow_mod w k os⟩
  unfold Lib.itoa
  rw [if_neg (by omega)]
theorem atoi_walk (w : World) (hg : Glob w) (s : ByteArray) (hs : s.size ≤ 1000) : Calls Tryd.prog 28 #[.string s] w fun e w' => ∃ v err, e = .returned (.tuple #[.int .i64 v, err]) ∧ ((err = .nilIface ∧ Lib.atoiAll s.data.toList = .ok v) ∨ ((∃ t p, err = .iface t p) ∧ ∀ u, Lib.atoiAll s.data.toList ≠ .ok u)) ∧ Mod NoB w w' := by
  cases h : Lib.atoiAll s.data.toList with
  | ok v =>
    refine (Tryd.strconv_Atoi_ok s (by omega) v h w).mono ?_
    rintro e w' ⟨rfl, hw⟩
    refine ⟨v, _, rfl, .inl ⟨rfl, rfl⟩, ?_⟩
    rcases hw with rfl | ⟨t, rfl⟩
    · exact Mod.refl _ _
    · exact Mod.of_below (Lib.bytesWorld_below w 5 t)
  | «syntax» =>
    obtain ⟨t, p, hv⟩ := hg.es
    refine (Tryd.strconv_Atoi_syntax s (by omega) h _ w hv (.inr ⟨t, p, rfl⟩)).mono ?_
    rintro e w' ⟨N, rfl, -, -, hb⟩
    exact ⟨_, _, rfl, .inr ⟨⟨_, _, rfl⟩, fun u h => by cases h⟩, Mod.of_below hb⟩
  | range =>
    obtain ⟨t, p, hv⟩ := hg.er
    refine (Tryd.strconv_Atoi_range s (by omega) h _ w hv (.inr ⟨t, p, rfl⟩)).mono ?_
    rintro e w' ⟨N, rfl, -, -, hb⟩
    exact ⟨_, _, rfl, .inr ⟨⟨_, _, rfl⟩, fun u h => by cases h⟩, Mod.of_below hb⟩
end Go.Proofs.YtjacllnmpenbmaaDoor
