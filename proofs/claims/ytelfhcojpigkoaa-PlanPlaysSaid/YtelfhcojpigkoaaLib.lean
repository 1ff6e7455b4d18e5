/- Contracts of the library's functions that the plan calls: bytes.Clone, slices.Delete, slices.Insert over plan.Item. -/
import Derived.Test.YtelfhcojpigkoaaRows
import Derived.Test.YtelfhcojpigkoaaRow
import Derived.Laws.AppendOwnNone
import Derived.Laws.OwnMore
import Derived.Lib.AppendZerosOnto
import Derived.Lib.Overlaps
namespace Go.Proofs.Ytelfhcojpigkoaa
open Go Go.RowKit

theorem Try.info5 : (Try.prog.info? 5).map (fun i => (i.zero, i.size, i.bytes)) = some (some (.int .u8 0), 1, 1) := by kernel_rfl
theorem Try.info56 : (Try.prog.info? 56).map (fun i => (i.zero, i.size, i.bytes)) = some (some (.agg #[.int .u32 0, .int .u16 0, .slice none 0 0]), 3, 32) := by kernel_rfl

set_option maxHeartbeats 400000 in
theorem clone_nil (w : World) : Calls Try.prog 24 #[.slice none 0 0] w fun e w' => e = .returned (.slice none 0 0) ∧ w' = w := by
  have heq := Lib.run_eql_slice_nil (P := Try.prog) w 22 5 none 0 0 0 0 Try.underlying22
  go_enter Try.func24, Try.ntmps24
  go_wp2
  go_ret
  exact ⟨rfl, rfl⟩

set_option maxHeartbeats 400000 in
theorem clone_some (w : World) (a : Addr) (n c : Nat) (xs : List Value) (hl : xs.length = n) (hn : n ≤ 1000) (hx : ∀ j u, xs[j]? = some u → w.cell? (a.add j) = some u) (h1 : ∀ u ∈ xs, u.oneCell' = true) :
    Calls Try.prog 24 #[.slice (some a) n c] w fun e w' => ∃ v, e = .returned v ∧ w'.ownsRow w.heap.size 5 1 v n xs ∧ v ≠ .slice none 0 0 ∧ Mod NoB w w' := by
  obtain ⟨i0, hi0, hz0, hz1, hz2⟩ := info_parts Try.info5
  have heq := Lib.run_eql_slice_nil (P := Try.prog) w 22 5 (some a) n c 0 0 Try.underlying22
  have hown : (w.alloc (.cells #[] 5)).ownsRow w.heap.size 5 1 (.slice (some ⟨w.heap.size, 0, none⟩) 0 0) 0 [] := World.ownsRow_made w #[] 0 (Nat.le_refl _) (by unfold maxLen; omega) rfl
  have hx' : ∀ j u, xs[j]? = some u → (w.alloc (.cells #[] 5)).cell? (a.add j) = some u := fun j u h => Lib.cell?_alloc_some _ (hx j u h)
  have hm0 : Mod NoB w (w.alloc (.cells #[] 5)) := (Mod.refl _ _).alloc _
  go_enter Try.func24, Try.ntmps24
  go_wp2_with (at_builtin; refine wpList_append_own _ rfl _ _ 22 rfl w.heap.size 5 i0 (.int .u8 0) 1 1 Try.underlying22 hi0 hz0 hz1 hz2 rfl (by decide) (.slice (some ⟨w.heap.size, 0, none⟩) 0 0) 0 [] rfl hown a n c xs rfl (by omega) hx' h1 (by unfold maxLen; omega) (by omega) (by simp) ?_; intro v' w1 hown1 hg1 hv1)
  go_ret
  refine ⟨v', rfl, ?_, ?_, ?_⟩
  · simpa only [Nat.zero_add, List.nil_append] using hown1
  · intro e
    have := hv1.1 e
    simp at this
  · exact hm0.grown hg1 (fun k hk e => by simp [Value.ownBlock] at e; omega)

theorem Try.size56 : (Try.prog.info? 56).map (·.size) = some 3 := by kernel_rfl
def zItemL : List Value := [.int .u32 0, .int .u16 0, .slice none 0 0]
def zItem : Value := .agg zItemL.toArray
theorem Try.zero56 (w : World) : (zeroValue 56).run Try.prog w = .ok zItem w := by kernel_rfl

theorem ones_zItem : Ones zItemL := by
  intro u hu
  simp [zItemL] at hu
  rcases hu with rfl | rfl | rfl <;> rfl
theorem len_zItem : zItemL.length = 3 := rfl
theorem mem_take {α : Type} {u : α} {l : List α} {n : Nat} (h : u ∈ l.take n) : u ∈ l := List.mem_of_mem_take h

set_option maxHeartbeats 1000000 in
/-- slices.Delete(s, 0, j) over plan.Item. -/
theorem delete_walk (w : World) (g n c j : Nat) (l : List Value) (hg : Blk w g 56 l) (hs : l.length = c * 3) (hj : j ≤ n) (hn : n ≤ c) (hc : c ≤ maxLen) (hn' : n ≤ 1000) (h1 : Ones (l.take (n * 3))) :
    Calls Try.prog 26 #[.slice (some ⟨g, 0, none⟩) n c, .int .i64 0, .int .i64 j] w fun e w' => e = .returned (.slice (some ⟨g, 0, none⟩) (n - j) c) ∧ Mod (· = g) w w' ∧
      ∃ l', Blk w' g 56 l' ∧ l'.length = c * 3 ∧ l'.take ((n - j) * 3) = (l.take (n * 3)).drop (j * 3) := by
  obtain ⟨i0, hi0, hz0, hz1, hz2⟩ := info_parts Try.info56
  have hc' := hc
  unfold maxLen at hc
  by_cases h0 : j = 0
  · subst h0
    go_enter Try.func26, Try.ntmps26
    go_wp2_with fail
    go_ret
    refine ⟨by simp, Mod.refl _ _, l, hg, hs, by simp⟩
  · have hj0 : ((0 : Int) == (j : Int)) = false := by simp; omega
    obtain ⟨A, hA, hAr⟩ : ∃ A : Addr, (if c = j then some (⟨g, 0, none⟩ : Addr) else some ⟨g, j * 3, none⟩) = some A ∧ Arr w A ((l.take (n * 3)).drop (j * 3)) := by
      by_cases h : c = j
      · refine ⟨⟨g, 0, none⟩, by simp [h], ?_⟩
        have : n = j := by omega
        subst this
        intro k u hu
        simp [List.drop_eq_nil_of_le, List.length_take] at hu
      · refine ⟨⟨g, j * 3, none⟩, by simp [h], ?_⟩
        have := hg.arr_take (j * 3) (n * 3 - j * 3)
        rwa [← List.drop_take] at this
    have hnl : ((l.take (n * 3)).drop (j * 3)).length = (n - j) * 3 := by simp; omega
    have hrun1 := fun ty => run_append_blk (P := Try.prog) (w := w.drew) (e := 56) (t := 50) (ty := ty) (elem := 56) (i := i0) (size := 3) (g := g) (n := 0) (c := c) (m := n - j) (c' := c - j) (a := A) (l := l) (news := (l.take (n * 3)).drop (j * 3))
      Try.underlying50 hi0 hz1 hg hnl hAr (h1.drop _) (by omega) (by rw [hnl]; omega)
    obtain ⟨l1, hl1⟩ : ∃ l1, l1 = splice l (0 * 3) ((l.take (n * 3)).drop (j * 3)) := ⟨_, rfl⟩
    have hl1len : l1.length = c * 3 := by rw [hl1, length_splice _ _ _ (by rw [hnl]; omega), hs]
    have hl1take : l1.take ((n - j) * 3) = (l.take (n * 3)).drop (j * 3) := by rw [hl1]; simpa using take_splice l _ _ hnl
    rw [← hl1] at hrun1
    have hb1 : Blk (w.drew.setRow g l1.toArray) g 56 l1 := Blk.setRow (w := w.drew) hg l1
    have hrun2 := fun ty => run_clear_blk (P := Try.prog) (e := 56) (t := 50) (ty := ty) (elem := 56) (z := zItem) (g := g) (o := (n - j) * 3) (n := n - (n - j)) (c := c - (n - j)) Try.underlying50 Try.zero56 (zl := zItemL) rfl ones_zItem hb1 (by omega) (by rw [hl1len, len_zItem]; omega)
    clear hl1
    go_enter Try.func26, Try.ntmps26
    go_wp2_with fail
    go_region_law (refine step_of_run rfl (exec_builtin2 (b := .append) (fun _ _ _ _ => rfl) _ _ 50 50 rfl (by simp [Act.eval, Act.put]) (by simp [Act.eval, Act.put, hA]) (hrun1 _)) ?_)
    go_wp2_with fail
    go_ret
    refine ⟨rfl, ?_, _, Blk.setRow (w := w.drew.setRow g l1.toArray) hb1 _, ?_, ?_⟩
    · exact ((Mod.refl (· = g) w).drew.setRow (fun _ => rfl) _).setRow (fun _ => rfl) _
    · rw [length_splice _ _ _ (by rw [length_zeros, hl1len, len_zItem]; omega), hl1len]
    · rw [take_splice_after _ _ _ _ (Nat.le_refl _) (by omega), hl1take]

theorem Try.kind3 : Try.prog.underlying 3 = some (.int .i64) := by kernel_rfl
theorem Try.sizeOf56 (w : World) : (sizeOf 56).run Try.prog w = .ok 3 w := by kernel_rfl

/-- What slices.Insert leaves: 'news' at place i. -/
def InsPost (w : World) (base i n : Nat) (v : Value) (xs news : List Value) (e : Ending) (w' : World) : Prop :=
  ∃ g' c', e = .returned (.slice (some ⟨g', 0, none⟩) (n + 1) c') ∧ w'.ownsRow base 56 3 (.slice (some ⟨g', 0, none⟩) (n + 1) c') (n + 1) (xs.take (i * 3) ++ news ++ xs.drop (i * 3)) ∧
    Mod (fun k => v.ownBlock = some k) w w' ∧ (v.ownBlock = some g' ∨ w.heap.size ≤ g')

theorem Try.elem56 : ElemT Try.prog 50 56 3 32 := ElemT.mk' Try.info56 Try.underlying50 (by omega) rfl
theorem Try.elem5 : ElemT Try.prog 22 5 1 1 := ElemT.mk' Try.info5 Try.underlying22 (by omega) rfl

set_option maxHeartbeats 1000000 in
/-- slices.Insert at the end. -/
theorem insert_end (w : World) (base vb n : Nat) (v : Value) (xs news : List Value) (hown : w.ownsRow base 56 3 v n xs) (hb : base ≤ w.heap.size) (hn : n ≤ 1000)
    (hl : news.length = 3) (hnews : Arr w ⟨vb, 0, none⟩ news) (h1 : Ones news) :
    Calls Try.prog 23 #[v, .int .i64 n, .slice (some ⟨vb, 0, none⟩) 1 1] w (InsPost w base n n v xs news) := by
  obtain ⟨v', w1, hrun, hown1, hm1, hb1, hnil⟩ := append_own Try.elem56 hown (m := 1) (by omega) hnews h1 (by unfold maxLen; omega) (by omega) hb
  obtain ⟨a, c, rfl⟩ := own_slice hown
  obtain ⟨-, hnc, -⟩ := own_len hown
  have hfin : xs.take (n * 3) ++ news ++ xs.drop (n * 3) = xs ++ news := by
    have := hown.1
    rw [List.take_of_length_le (by omega), List.drop_of_length_le (by omega)]; simp
  have HF := Lib.hid hfin
  clear hfin
  go_enter Try.func23, Try.ntmps23
  go_wp2_with (at_builtin; refine wpList_of_run rfl (exec_builtin2 (b := .append) (fun _ _ _ _ => rfl) _ _ 50 50 rfl rfl rfl (hrun _ _)) ?_)
  all_goals
    go_ret
    rcases hown1.2 with ⟨_, h0⟩ | ⟨g', cap', cur, rfl, _, hg', _⟩
    · omega
    · exact ⟨g', cap', rfl, by rw [HF.out]; exact hown1, hm1.mono (fun k _ h => by cases a <;> exact h), by have := hb1 g' rfl; cases a <;> exact this⟩

theorem splice_at {α : Type} (A B C news : List α) (k : Nat) (hA : A.length = k) (hB : B.length = news.length) : splice (A ++ (B ++ C)) k news = A ++ (news ++ C) := by
  unfold splice
  rw [List.take_left' hA, ← List.append_assoc A B C, List.drop_left' (by simp; omega)]
/-- There is room, i < n: in place. -/
theorem shift_eq (l news : List Value) (i n : Nat) (hn : n * 3 + 3 ≤ l.length) (hin : i < n) (hl : news.length = 3) :
    (splice (splice l ((i + 1) * 3) ((l.take (n * 3)).drop (i * 3))) (i * 3) news).take ((n + 1) * 3) = (l.take (n * 3)).take (i * 3) ++ news ++ (l.take (n * 3)).drop (i * 3) := by
  obtain ⟨A, M, T, hl', hA, hM⟩ : ∃ A M T : List Value, l = A ++ (M ++ T) ∧ A.length = i * 3 ∧ M.length = (n - i) * 3 :=
    ⟨l.take (i * 3), (l.drop (i * 3)).take ((n - i) * 3), (l.drop (i * 3)).drop ((n - i) * 3), by rw [List.take_append_drop, List.take_append_drop], by simp; omega, by simp; omega⟩
  subst hl'
  have hAM : (A ++ M).length = n * 3 := by simp; omega
  have h1 : (A ++ (M ++ T)).take (n * 3) = A ++ M := by rw [← List.append_assoc, List.take_left' hAM]
  rw [h1, List.drop_left' hA, List.take_left' hA]
  have h2 : splice (A ++ (M ++ T)) ((i + 1) * 3) M = A ++ ((M ++ T).take 3 ++ (M ++ (T.drop 3))) := by
    unfold splice
    rw [show (i + 1) * 3 = A.length + 3 by omega, List.take_length_add_append, show A.length + 3 + M.length = (A ++ M).length + 3 by simp; omega, ← List.append_assoc A M T, List.drop_length_add_append]
    simp
  rw [h2, splice_at A _ _ news (i * 3) hA (by simp at hn ⊢; omega), ← List.append_assoc, ← List.append_assoc, List.take_left' (by simp; omega)]

set_option maxHeartbeats 1000000 in
theorem insert_shift (w : World) (vb g c n i : Nat) (l news : List Value) (hg : Blk w g 56 l) (hlen : l.length = c * 3) (hi : i < n) (hn : n ≤ 1000) (hroom : n + 1 ≤ c) (hc : c ≤ maxLen)
    (hvb : Blk w vb 56 news) (hne : vb ≠ g) (hl : news.length = 3) (h1 : Ones news) (h1l : Ones (l.take (n * 3))) :
    Calls Try.prog 23 #[.slice (some ⟨g, 0, none⟩) n c, .int .i64 i, .slice (some ⟨vb, 0, none⟩) 1 1] w fun e w' =>
      e = .returned (.slice (some ⟨g, 0, none⟩) (n + 1) c) ∧ Mod (· = g) w w' ∧ ∃ l', Blk w' g 56 l' ∧ l'.length = c * 3 ∧ l'.take ((n + 1) * 3) = (l.take (n * 3)).take (i * 3) ++ news ++ (l.take (n * 3)).drop (i * 3) := by
  have hc' := hc
  unfold maxLen at hc'
  have hov : ∀ lb cb, (callFunc 35 #[.slice (some ⟨vb, 0, none⟩) 1 1, .slice (some ⟨g, (i + 1) * 3, none⟩) lb cb]).run Try.prog w = .ok (.value (.bool false)) w := fun lb cb => by
    rw [run_callFunc_extern Try.func35 (by kernel_rfl) (by kernel_rfl) (by kernel_rfl) (e := Extern.SlicesOverlaps.overlaps #[50, 50] #[4]) (by kernel_rfl),
      Lib.run_overlaps_apart w 50 4 56 Try.underlying50 3 Try.sizeOf56 ⟨vb, 0, none⟩ ⟨g, (i + 1) * 3, none⟩ 1 1 lb cb hne 56 56 news.length l.length (by simp [World.shape?, show w.heap[vb]? = _ from hvb]) (by simp [World.shape?, show w.heap[g]? = _ from hg]) (by omega) (hvb.frozen _) (hvb.frozen _)]
    rfl
  have hml : ((l.take (n * 3)).drop (i * 3)).length = (n - i) * 3 := by simp; omega
  have hcp1 := fun ty => run_copy_blk (P := Try.prog) (w := w.drew) (e := 56) (dT := 50) (sT := 50) (ty := ty) (elem := 56) (size := 3) (g := g) (o := (i + 1) * 3) (dLen := n - i) (dCap := c - (i + 1)) (sLen := n + 1 - i) (sCap := c - i) (a := ⟨g, i * 3, none⟩) (l := l) (cs := (l.take (n * 3)).drop (i * 3))
    Try.underlying50 Try.size56 hg (by rw [hml]; congr 1; simp only [Nat.min_def]; split <;> omega)
    (by have := hg.arr_take (i * 3) (n * 3 - i * 3); rwa [← List.drop_take] at this) (by rw [hml]; omega) (h1l.drop _)
  obtain ⟨l1, hl1⟩ : ∃ l1, l1 = splice l ((i + 1) * 3) ((l.take (n * 3)).drop (i * 3)) := ⟨_, rfl⟩
  have hl1len : l1.length = c * 3 := by rw [hl1, length_splice _ _ _ (by rw [hml]; omega), hlen]
  rw [← hl1] at hcp1
  have hb1 : Blk (w.drew.setRow g l1.toArray) g 56 l1 := Blk.setRow (w := w.drew) hg l1
  have hvb1 : Blk (w.drew.setRow g l1.toArray) vb 56 news := Blk.setRow_other (w := w.drew) hvb hne _
  have hcp2 := fun ty => run_copy_blk (P := Try.prog) (e := 56) (dT := 50) (sT := 50) (ty := ty) (elem := 56) (size := 3) (g := g) (o := i * 3) (dLen := n + 1 - i) (dCap := c - i) (sLen := 1) (sCap := 1) (a := ⟨vb, 0, none⟩) (l := l1) (cs := news)
    Try.underlying50 Try.size56 hb1 (by rw [hl, show Nat.min 1 (n + 1 - i) = 1 from by simp only [Nat.min_def]; split <;> omega]) (hvb1.arr 0) (by rw [hl, hl1len]; omega) h1
  have hfin := shift_eq l news i n (by omega) hi hl
  rw [← hl1] at hfin
  have hlen2 : (splice l1 (i * 3) news).length = c * 3 := by rw [length_splice _ _ _ (by rw [hl, hl1len]; omega), hl1len]
  have HF := Lib.hid hfin
  have HL := Lib.hid hlen2
  clear hfin hl1 hlen2
  have hw1 : IntKind.i64.wrap ((i : Int) + 1) = (i : Int) + 1 := by rw [IntKind.wrap_i64]; omega
  have hb0 : (0 : Int) ≤ (i : Int) + 1 := by omega
  have htn : ((i : Int) + 1).toNat = i + 1 := by omega
  have hb2 : ¬ (c = i + 1) := by omega
  have hb4 : ¬ (c = i) := by omega
  have hb3 : (i : Int) ≤ (n : Int) + 1 := by omega
  have hz2 : ¬ ((i : Int) = (n : Int)) := by omega
  have hb5 : i ≤ n := by omega
  go_enter Try.func23, Try.ntmps23
  go_wp2_with (simp only [hov])
  go_region_law (refine step_of_run rfl (exec_builtin2 (b := .copy) (fun _ _ _ _ => rfl) _ _ 50 50 rfl (by simp [Act.eval, Act.put]) (by simp [Act.eval, Act.put]) (hcp1 _)) ?_)
  all_goals go_wp2_with fail
  all_goals go_ret
  all_goals exact ⟨rfl, ((Mod.refl (· = g) w).drew.setRow (fun _ => rfl) _).setRow (fun _ => rfl) _, _, hb1.setRow _, HL.out, HF.out⟩

theorem grow_eq (A M Z news : List Value) (i n : Nat) (hA : A.length = i * 3) (hM : M.length = (n - i) * 3) (hin : i < n) (hl : news.length = 3) (hZ : (n + 1 - i) * 3 ≤ Z.length) :
    (splice (splice (A ++ Z) (i * 3) news) ((i + 1) * 3) M).take ((n + 1) * 3) = A ++ news ++ M := by
  have h1 : splice (A ++ Z) (i * 3) news = (A ++ news) ++ Z.drop 3 := by
    have := splice_at A (Z.take 3) (Z.drop 3) news (i * 3) hA (by simp; omega)
    rw [List.take_append_drop] at this
    rw [this, List.append_assoc]
  rw [h1]
  unfold splice
  rw [List.take_left' (l₁ := A ++ news) (by simp; omega), ← List.append_assoc, List.take_left' (l₁ := A ++ news ++ M) (by simp; omega)]

set_option maxHeartbeats 1000000 in
theorem insert_grow (w : World) (vb g n i : Nat) (l news : List Value) (hg : Blk w g 56 l) (hlen : l.length = n * 3) (hi : i < n) (hn : n ≤ 1000)
    (hvb : Blk w vb 56 news) (hl : news.length = 3) (h1 : Ones news) (h1l : Ones l) :
    Calls Try.prog 23 #[.slice (some ⟨g, 0, none⟩) n n, .int .i64 i, .slice (some ⟨vb, 0, none⟩) 1 1] w fun e w' => ∃ c',
      e = .returned (.slice (some ⟨w.heap.size, 0, none⟩) (n + 1) c') ∧ Mod NoB w w' ∧ n + 1 ≤ c' ∧ c' ≤ maxLen ∧ ∃ l', Blk w' w.heap.size 56 l' ∧ l'.length = c' * 3 ∧ l'.take ((n + 1) * 3) = l.take (i * 3) ++ news ++ l.drop (i * 3) := by
  obtain ⟨i0, hi0, hz0, hz1, hz2⟩ := info_parts Try.info56
  obtain ⟨C, hC⟩ : ∃ C, C = grownCap w (i + (n + 1 - i)) n 56 := ⟨_, rfl⟩
  have hCn : n + 1 ≤ C := by rw [hC]; have := grownCap_ge w (i + (n + 1 - i)) n 56; omega
  have hCm : C ≤ maxLen := by rw [hC]; exact grownCap_le_maxLen w _ n 56 (by unfold maxLen; omega)
  have hold : (Builtin.firstCells i0.size i (.slice (some ⟨g, 0, none⟩) i n)).run Try.prog w.drew = .ok (l.take (i * 3)).toArray w.drew := by
    rw [hz1]
    exact run_firstCells_some w.drew 3 i ⟨g, 0, none⟩ i n (l.take (i * 3)) (by simp; omega) (hg.arr_take 0 (i * 3))
  have hap := fun ty => Lib.run_append_grow_zeros (P := Try.prog) w 50 3 ty 56 i0 zItem .i64 .i64 Try.underlying50 Try.kind3 hi0 hz0 (some ⟨g, 0, none⟩) i n (l.take (i * 3)) hold (n + 1 - i) (by omega) (by omega) (by omega) (by omega) (by rw [hz2]; omega)
    (growslice_fits (by omega) (by rw [hz2]; omega))
  rw [← hC] at hap
  obtain ⟨Z, hZ⟩ : ∃ Z : List Value, Z = (Builtin.zeroCells zItem.cells (n + 1 - i)).toList ++ (Builtin.zeroCells zItem.cells (C - (i + (n + 1 - i)))).toList := ⟨_, rfl⟩
  have hZl : Z.length = (C - i) * 3 := by
    rw [hZ, List.length_append, toList_zeroCells, toList_zeroCells, length_zeros, length_zeros]
    show _ * 3 + _ * 3 = _
    omega
  have harr : ((l.take (i * 3)).toArray ++ Builtin.zeroCells zItem.cells (n + 1 - i) ++ Builtin.zeroCells zItem.cells (C - (i + (n + 1 - i)))) = (l.take (i * 3) ++ Z).toArray := by
    apply Array.toList_inj.1
    simp [hZ]
  rw [harr] at hap
  have hb0 : Blk (w.drew.alloc (.cells (l.take (i * 3) ++ Z).toArray 56)) w.heap.size 56 (l.take (i * 3) ++ Z) := Blk.new w.drew 56 _
  have hvb0 : Blk (w.drew.alloc (.cells (l.take (i * 3) ++ Z).toArray 56)) vb 56 news := Blk.alloc (w := w.drew) hvb _
  have hcp1 := fun ty => run_copy_blk (P := Try.prog) (e := 56) (dT := 50) (sT := 50) (ty := ty) (elem := 56) (size := 3) (g := w.heap.size) (o := i * 3) (dLen := n + 1 - i) (dCap := C - i) (sLen := 1) (sCap := 1) (a := ⟨vb, 0, none⟩) (cs := news)
    Try.underlying50 Try.size56 hb0 (by rw [hl, show Nat.min 1 (n + 1 - i) = 1 from by simp only [Nat.min_def]; split <;> omega]) (hvb0.arr 0) (by rw [hl]; simp [hZl]; omega) h1
  obtain ⟨W1, hW1⟩ : ∃ W1, W1 = w.drew.alloc (.cells (l.take (i * 3) ++ Z).toArray 56) := ⟨_, rfl⟩
  obtain ⟨l1, hl1⟩ : ∃ l1, l1 = splice (l.take (i * 3) ++ Z) (i * 3) news := ⟨_, rfl⟩
  have hl1len : l1.length = C * 3 := by rw [hl1, length_splice _ _ _ (by simp; omega)]; simp; omega
  rw [← hW1] at hb0 hvb0 hcp1 hap
  rw [← hl1] at hcp1
  have hb1 : Blk (W1.setRow w.heap.size l1.toArray).drew w.heap.size 56 l1 := hb0.setRow _
  have hg0 : Blk W1 g 56 l := by rw [hW1]; exact Blk.alloc (w := w.drew) hg _
  have hg1 : Blk (W1.setRow w.heap.size l1.toArray).drew g 56 l := Blk.setRow_other hg0 (by have := hg.lt; omega) _
  have hml : (l.drop (i * 3)).length = (n - i) * 3 := by simp; omega
  have hcp2 := fun ty dc => run_copy_blk (P := Try.prog) (e := 56) (dT := 50) (sT := 50) (ty := ty) (elem := 56) (size := 3) (g := w.heap.size) (o := (i + 1) * 3) (dLen := n - i) (dCap := dc) (sLen := n - i) (sCap := n - i) (a := ⟨g, i * 3, none⟩) (cs := l.drop (i * 3))
    Try.underlying50 Try.size56 hb1 (by rw [hml]; simp) (hg1.arr _) (by rw [hml, hl1len]; omega) (h1l.drop _)
  have hfin := grow_eq (l.take (i * 3)) (l.drop (i * 3)) Z news i n (by simp; omega) hml hi hl (by omega)
  rw [← hl1] at hfin
  have hlen2 : (splice l1 ((i + 1) * 3) (l.drop (i * 3))).length = C * 3 := by rw [length_splice _ _ _ (by rw [hml, hl1len]; omega), hl1len]
  have hmod : Mod NoB w W1 := by rw [hW1]; exact (Mod.refl _ w).drew.alloc _
  have HF := Lib.hid hfin
  have HL := Lib.hid hlen2
  clear hfin hl1 hlen2 hW1 hZ hC harr
  have hw1 : IntKind.i64.wrap ((i : Int) + 1) = (i : Int) + 1 := by rw [IntKind.wrap_i64]; omega
  have hb0' : (0 : Int) ≤ (i : Int) + 1 := by omega
  have htn : ((i : Int) + 1).toNat = i + 1 := by omega
  have hb2 : ¬ (C = i + 1) := by omega
  have hb4 : ¬ (n = i) := by omega
  have hb6 : ¬ (C = i) := by omega
  have hb3 : (i : Int) ≤ (n : Int) + 1 := by omega
  have hz2 : ¬ ((i : Int) = (n : Int)) := by omega
  have hb5 : i ≤ n := by omega
  have hsub : (n : Int) + 1 - (i : Int) = ((n + 1 - i : Nat) : Int) := by omega
  have hin : i + (n + 1 - i) = n + 1 := by omega
  go_enter Try.func23, Try.ntmps23
  go_wp2_with (at_builtin; refine wpList_of_run rfl (exec_builtin2 (b := .append) (fun _ _ _ _ => rfl) _ _ 50 3 rfl rfl rfl (hap _)) ?_)
  go_region_law (refine step_of_run rfl (exec_builtin2 (b := .copy) (fun _ _ _ _ => rfl) _ _ 50 50 rfl (by simp [Act.eval, Act.put]) (by simp [Act.eval, Act.put]) (hcp2 _ _)) ?_)
  all_goals go_wp2_with fail
  all_goals go_ret
  all_goals exact ⟨C, rfl, (((hmod.setRow (fun h => by omega) _).drew).setRow (fun h => by omega) _), hCn, hCm, _, hb1.setRow _, HL.out, HF.out⟩

/-- slices.Insert(s, i, x) over plan.Item, whatever s owns. -/
theorem insert_any (w : World) (base vb n i : Nat) (v : Value) (xs news : List Value) (hown : w.ownsRow base 56 3 v n xs) (hb : base ≤ w.heap.size) (hi : i ≤ n) (hn : n ≤ 1000) (hx1 : Ones xs)
    (hvb : Blk w vb 56 news) (hne : v.ownBlock ≠ some vb) (hl : news.length = 3) (h1 : Ones news) :
    Calls Try.prog 23 #[v, .int .i64 i, .slice (some ⟨vb, 0, none⟩) 1 1] w (InsPost w base i n v xs news) := by
  by_cases hin : i = n
  · subst hin
    exact insert_end w base vb i v xs news hown hb hn hl (hvb.arr 0) h1
  · rcases hown.2 with ⟨rfl, h0⟩ | ⟨g, c, cur, rfl, hbg, hg, hnc, hcm, hcs, htake⟩
    · omega
    · obtain ⟨l, hlb, hll, hlt, -, -, -⟩ := own_blk hown
      by_cases hroom : n + 1 ≤ c
      · refine (insert_shift w vb g c n i l news hlb hll (by omega) hn hroom hcm hvb (fun e => hne (by rw [e]; rfl)) hl h1 (by rw [hlt]; exact hx1)).mono ?_
        rintro e w' ⟨rfl, hm, l', hb', hl', ht'⟩
        refine ⟨g, c, rfl, ?_, hm.mono (fun k _ h => by simp [Value.ownBlock, h]), .inl rfl⟩
        have := blk_own hb' hl' hbg hroom hcm
        rwa [ht', hlt] at this
      · obtain rfl : c = n := by omega
        have hlx : l = xs := by rw [← hlt, List.take_of_length_le (by omega)]
        subst hlx
        refine (insert_grow w vb g c i l news hlb hll (by omega) hn hvb hl h1 hx1).mono ?_
        rintro e w' ⟨c', rfl, hm, hc1, hc2, l', hb', hl', ht'⟩
        refine ⟨_, c', rfl, ?_, hm.mono (fun k _ h => h.elim), .inr (Nat.le_refl _)⟩
        have := blk_own hb' hl' hb hc1 hc2
        rwa [ht'] at this

/-- bytes.Clone: a copy of one's own (nil of nil). -/
theorem clone_any (w : World) (v : Value) (xs : List Value) (hn : xs.length ≤ 1000) (h1 : Ones xs) (hv : (v = .slice none 0 0 ∧ xs = []) ∨ ∃ a c, v = .slice (some a) xs.length c ∧ Arr w a xs) :
    Calls Try.prog 24 #[v] w fun e w' => ∃ a' c', e = .returned (.slice a' xs.length c') ∧ w'.ownsRow w.heap.size 5 1 (.slice a' xs.length c') xs.length xs ∧ (a' = none ↔ v = .slice none 0 0) ∧ Mod NoB w w' := by
  rcases hv with ⟨rfl, rfl⟩ | ⟨a, c, rfl, ha⟩
  · refine (clone_nil w).mono ?_
    rintro e w' ⟨rfl, rfl⟩
    exact ⟨none, 0, rfl, World.ownsRow_nil _ _ _ _, by simp, Mod.refl _ _⟩
  · refine (clone_some w a xs.length c xs rfl hn ha h1).mono ?_
    rintro e w' ⟨v', rfl, ho, hne, hm⟩
    rcases ho.2 with ⟨rfl, _⟩ | ⟨g', cap, cur, rfl, _⟩
    · exact absurd rfl hne
    · exact ⟨_, cap, rfl, ho, by simp, hm⟩

/-- slices.Delete(s, 0, j), whatever s owns. -/
theorem delete_any (w : World) (base n j : Nat) (a : Option Addr) (c : Nat) (xs : List Value) (hown : w.ownsRow base 56 3 (.slice a n c) n xs) (hj : j ≤ n) (hn : n ≤ 1000) (h1 : Ones xs) :
    Calls Try.prog 26 #[.slice a n c, .int .i64 0, .int .i64 j] w fun e w' => e = .returned (.slice a (n - j) c) ∧ w'.ownsRow base 56 3 (.slice a (n - j) c) (n - j) (xs.drop (j * 3)) ∧ Mod (fun k => (Value.slice a n c).ownBlock = some k) w w' := by
  rcases hown.2 with ⟨h, h0⟩ | ⟨g, cap, cur, h, hb, hg, hnc, hcm, hcs, htake⟩
  · cases h
    obtain rfl : j = 0 := by omega
    go_enter Try.func26, Try.ntmps26
    go_wp2
    go_ret
    exact ⟨rfl, by simpa using hown, Mod.refl _ _⟩
  · cases h
    obtain ⟨l, hlb, hll, hlt, -, -, -⟩ := own_blk hown
    refine (delete_walk w g n c j l hlb hll hj hnc hcm hn (by rw [hlt]; exact h1)).mono ?_
    rintro e w' ⟨rfl, hm, l', hb', hl', ht'⟩
    refine ⟨rfl, ?_, hm.mono (fun k _ h => by simp [Value.ownBlock, h])⟩
    have := blk_own hb' hl' hb (n := n - j) (by omega) hcm
    rwa [ht', hlt] at this
end Go.Proofs.Ytelfhcojpigkoaa
