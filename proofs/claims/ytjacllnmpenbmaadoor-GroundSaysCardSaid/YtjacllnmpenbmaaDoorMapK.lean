/- Plain laws on maps with keys of any kind whose comparison is known (structs of two bytes): a store under a new key, a lookup with ok, range, next, entry. No program. -/
import Derived.Test.YtjacllnmpenbmaaDoorRow
import Derived.Maps.RangeWalk
namespace Go.Proofs.YtjacllnmpenbmaaDoor
open Go Go.RowKit

section
variable {α : Type} [DecidableEq α]
/-- Block M is a map whose entries, in the order in which they came, are l; enc: how a key stands in memory. -/
def MapK (enc : α → Value) (w : World) (M : Nat) (l : List (α × Value)) : Prop :=
  ∃ (es : Array MapEntry) (clock : Nat), w.heap[M]? = some (.map es clock) ∧ es.toList.map (fun e => (e.key, e.val)) = l.map (fun p => (enc p.1, p.2)) ∧
    es.toList.Pairwise (fun a b => a.born ≠ b.born) ∧ ∀ e ∈ es.toList, e.born < clock

/-- How keys of type kt are compared. -/
structure KeyEq (P : Program) (kt : TypeId) (enc : α → Value) : Prop where
  now : ∀ (d : TypeDesc) (a b : α), P.underlying kt = some d → Instr.sameNow d (enc a) (enc b) = none
  und : ∃ d, P.underlying kt = some d
  eq : ∀ (a b : α) (w : World), (Op.equal kt (enc a) (enc b)).run P w = .ok (decide (a = b)) w
  ok : ∀ (a : α) (b : Bool) (w : World), (Instr.checkKey b 10000 kt (enc a)).run P w = .ok () w

def kget (l : List (α × Value)) (a : α) : Option Value := (l.find? (fun p => decide (a = p.1))).map (·.2)

variable {enc : α → Value} {P : Program} {w w' : World} {M : Nat} {l : List (α × Value)} {kt : TypeId}
theorem MapK.lt (h : MapK enc w M l) : M < w.heap.size := by obtain ⟨es, cl, h, _⟩ := h; exact lt_of_heap h
theorem MapK.mod {T : Nat → Prop} (h : MapK enc w M l) (hm : Mod T w w') (hn : ¬ T M) : MapK enc w' M l := by
  obtain ⟨es, cl, h, r⟩ := h
  exact ⟨es, cl, hm.heap h hn, r⟩
theorem MapK.new (w : World) : MapK enc (w.alloc (.map #[] 0)) w.heap.size [] := ⟨#[], 0, heap_alloc_new w _, rfl, List.Pairwise.nil, by simp⟩
theorem MapK.drew (h : MapK enc w M l) : MapK enc w.drew M l := h
theorem MapK.ne_blk {g : Nat} {e : TypeId} {c : List Value} (h : MapK enc w M l) (hb : Blk w g e c) : M ≠ g := by
  rintro rfl
  obtain ⟨es, cl, h, _⟩ := h
  unfold Blk at hb
  rw [h] at hb
  cases hb

theorem findAsking_run (K : KeyEq P kt enc) (a : α) : ∀ (es : List MapEntry) (l : List (α × Value)) (i : Nat), es.map (fun e => (e.key, e.val)) = l.map (fun p => (enc p.1, p.2)) →
    (Instr.findAsking kt (enc a) es i).run P w = .ok ((kget l a).map (fun v => (i + l.findIdx (fun p => decide (a = p.1)), v))) w
  | [], [], i, _ => rfl
  | e :: es, p :: l, i, h => by
    simp only [List.map_cons, List.cons.injEq, Prod.mk.injEq] at h
    obtain ⟨⟨hk, hv⟩, h⟩ := h
    unfold Instr.findAsking
    simp only [Sem.run_bind, hk, K.eq a p.1 w, Result.andThen_ok]
    by_cases hp : a = p.1
    · simp [hp, kget, List.findIdx_cons, hv]
    · have ih := findAsking_run K a es l (i + 1) h
      simp only [hp, decide_false, Bool.false_eq_true, if_false, ih]
      have hkg : kget (p :: l) a = kget l a := by unfold kget; rw [List.find?_cons_of_neg (by simpa using hp)]
      rw [hkg, List.findIdx_cons]
      simp only [hp, decide_false, Bool.cond_false]
      congr 2
      funext x
      simp
      omega
  | [], p :: l, i, h => by cases h
  | e :: es, [], i, h => by cases h
theorem findKey_run (K : KeyEq P kt enc) (a : α) (es : List MapEntry) (l : List (α × Value)) (h : es.map (fun e => (e.key, e.val)) = l.map (fun p => (enc p.1, p.2))) :
    (Instr.findKey kt (enc a) es).run P w = .ok ((kget l a).map (fun v => (l.findIdx (fun p => decide (a = p.1)), v))) w := by
  obtain ⟨d, hd⟩ := K.und
  have h1 := findAsking_run (w := w) K a es l 0 h
  unfold Instr.findKey
  cases es with
  | nil =>
    cases l with
    | nil => simp [run_underlying hd, Instr.findNow, kget]
    | cons p l => cases h
  | cons e es =>
    cases l with
    | nil => cases h
    | cons p l =>
      have hk : e.key = enc p.1 := by simp only [List.map_cons, List.cons.injEq, Prod.mk.injEq] at h; exact h.1.1
      have hn := K.now d a p.1 hd
      rw [← hk] at hn
      simp [run_underlying hd, Instr.findNow, hn, h1]

/-- A store under a new key. -/
theorem run_mapK_new {t et : TypeId} (ht : P.underlying t = some (.map kt et)) (K : KeyEq P kt enc) (h : MapK enc w M l) (a : α) (v : Value) (hn : kget l a = none) :
    ∃ w', (Instr.mapUpdate t (.map (some M)) (enc a) v).run P w = .ok () w' ∧ MapK enc w' M (l ++ [(a, v)]) ∧ Mod (· = M) w w' := by
  obtain ⟨es, cl, hM, he, hp, hb⟩ := h
  have h1 := findKey_run (w := w) K a es.toList l he
  rw [hn, Option.map_none] at h1
  refine ⟨{ w with heap := w.heap.setIfInBounds M (.map (es.push { key := enc a, val := v, born := cl }) (cl + 1)) }, ?_, ⟨es.push { key := enc a, val := v, born := cl }, cl + 1, ?_, ?_, ?_, ?_⟩, ⟨rfl, rfl, rfl, by simp, ?_⟩⟩
  · simp [Instr.mapUpdate, run_underlying ht, getObj, setObj, Sem.run, hM, K.ok a false _, h1]
  · have := lt_of_heap hM
    simp [this]
  · simp [he]
  · simp only [Array.toList_push, List.pairwise_append, List.mem_singleton]
    exact ⟨hp, by simp, fun x hx y hy => by subst hy; have := hb x hx; simp; omega⟩
  · intro e he'
    simp only [Array.toList_push, List.mem_append, List.mem_singleton] at he'
    rcases he' with he' | rfl
    · have := hb e he'; omega
    · simp
  · intro j hj hn
    simp [Array.getElem?_setIfInBounds, Ne.symm hn]
/-- A lookup with ok. -/
theorem run_lookupK_ok {t et : TypeId} (ht : P.underlying t = some (.map kt et)) (K : KeyEq P kt enc) {z : Value} (hz : ∀ w, (zeroValue et).run P w = .ok z w) (h : MapK enc w M l) (a : α) :
    (Instr.lookup t (.map (some M)) (enc a) true).run P w = .ok (.tuple #[(kget l a).getD z, .bool (kget l a).isSome]) w := by
  obtain ⟨es, cl, hM, he, -, -⟩ := h
  have h1 := findKey_run (w := w) K a es.toList l he
  cases hg : kget l a with
  | none => simp [Instr.lookup, run_underlying ht, getObj, Sem.run, hM, K.ok a _ _, h1, hg, hz]
  | some v => simp [Instr.lookup, run_underlying ht, getObj, Sem.run, hM, K.ok a _ _, h1, hg]

/-- Block r is an iterator over the map M; what is still to come is 'left'. -/
def IterK (enc : α → Value) (w : World) (M r : Nat) (left : List (α × Value)) : Prop :=
  ∃ (es : Array MapEntry) (clock : Nat) (seen : Array Nat), w.heap[M]? = some (.map es clock) ∧ w.heap[r]? = some (.mapIter (some M) clock seen clock) ∧ es.toList.Pairwise (fun a b => a.born ≠ b.born) ∧ (∀ e ∈ es.toList, e.born < clock) ∧
    (es.toList.filter fun e => !seen.contains e.born).map (fun e => (e.key, e.val)) = left.map (fun p => (enc p.1, p.2))
variable {r : Nat} {left : List (α × Value)}
theorem IterK.mod {T : Nat → Prop} (h : IterK enc w M r left) (hm : Mod T w w') (hM : ¬ T M) (hr : ¬ T r) : IterK enc w' M r left := by
  obtain ⟨es, cl, seen, h1, h2, rest⟩ := h
  exact ⟨es, cl, seen, hm.heap h1 hM, hm.heap h2 hr, rest⟩
theorem IterK.lt (h : IterK enc w M r left) : r < w.heap.size := by obtain ⟨es, cl, seen, h1, h2, rest⟩ := h; exact lt_of_heap h2
theorem IterK.ltM (h : IterK enc w M r left) : M < w.heap.size := by obtain ⟨es, cl, seen, h1, h2, rest⟩ := h; exact lt_of_heap h1
/-- range m. -/
theorem run_rangeK {t et : TypeId} (ht : P.underlying t = some (.map kt et)) (h : MapK enc w M l) :
    ∃ w', (Instr.range t (.map (some M))).run P w = .ok (.pointer (some ⟨w.heap.size, 0, none⟩)) w' ∧ IterK enc w' M w.heap.size l ∧ Mod NoB w w' ∧ w'.heap.size = w.heap.size + 1 := by
  obtain ⟨es, cl, hM, he, hp, hb⟩ := h
  have hlt := lt_of_heap hM
  refine ⟨w.alloc (.mapIter (some M) cl #[] cl), ?_, ⟨es, cl, #[], ?_, heap_alloc_new w _, hp, hb, ?_⟩, (Mod.refl _ _).alloc _, by simp⟩
  · simp [Instr.range, run_underlying ht, getObj, Sem.run, hM, newObj]
  · exact (Below.heap_alloc w _ M hlt).trans hM
  · rw [← he]
    congr 1
    rw [List.filter_eq_self]
    simp
/-- The step: over, or one of those that are left has come. -/
theorem run_nextK (ty : TypeId) (h : IterK enc w M r left) :
    (left = [] ∧ ∃ w', (Instr.next (.pointer (some ⟨r, 0, none⟩)) false ty).run P w = .ok (.tuple #[.bool false]) w' ∧ (w' = w ∨ w' = w.drew)) ∨
    ∃ (A B : List (α × Value)) (x : α × Value) (w' : World), left = A ++ x :: B ∧ (Instr.next (.pointer (some ⟨r, 0, none⟩)) false ty).run P w = .ok (.tuple #[.bool true, enc x.1, x.2]) w' ∧ IterK enc w' M r (A ++ B) ∧ Mod (· = r) w w' ∧ w'.heap.size = w.heap.size ∧
      (Instr.entry (.pointer (some ⟨r, 0, none⟩))).run P w' = .ok (.tuple #[enc x.1, x.2]) w' := by
  obtain ⟨es, cl, seen, hM, hr, hp, hb, hl⟩ := h
  have hle : (leftOf es seen).toList = es.toList.filter fun e => !seen.contains e.born := by unfold leftOf; simp
  rcases run_next_at (P := P) w ty r M cl cl seen es cl hr hM hb (Nat.le_refl _) with ⟨h0, hrun⟩ | ⟨e, he, w1, hw1, hrun⟩
  · left
    rw [← hle, List.eq_nil_of_length_eq_zero (l := (leftOf es seen).toList) (by simpa using h0)] at hl
    refine ⟨by simpa using hl.symm, w, hrun, .inl rfl⟩
  · right
    rw [hle] at he
    obtain ⟨A', B', hsp⟩ := List.append_of_mem he
    rw [hsp, List.map_append, List.map_cons] at hl
    obtain ⟨A, C, hAC, hA, hC⟩ := List.map_eq_append_iff.1 hl.symm
    obtain ⟨x, B, hxB, hx, hB⟩ := List.map_eq_cons_iff.1 hC
    simp only [Prod.mk.injEq] at hx
    have hw1h : w1.heap = w.heap := by rcases hw1 with rfl | rfl <;> rfl
    have hsub : (A' ++ e :: B').Pairwise (fun a b => a.born ≠ b.born) := by rw [← hsp]; exact hp.sublist List.filter_sublist
    have hnew : (es.toList.filter fun x => !(seen.push e.born).contains x.born) = A' ++ B' := by
      have h2 : (es.toList.filter fun x => !(seen.push e.born).contains x.born) = (es.toList.filter fun x => !seen.contains x.born).filter (fun x => !(x.born == e.born)) := by
        rw [List.filter_filter]
        refine List.filter_congr fun x _ => ?_
        simp [Array.contains_push, Bool.and_comm]
        rfl
      rw [h2, hsp, List.filter_append, List.filter_cons]
      have hpa := List.pairwise_append.1 hsub
      have hpb := List.pairwise_cons.1 hpa.2.1
      rw [List.filter_eq_self.2, List.filter_eq_self.2]
      · simp
      · intro y hy; have := hpb.1 y hy; simpa using fun h => this h.symm
      · intro y hy; have := hpa.2.2 y hy e (by simp); simpa using this
    have hlt := lt_of_heap hr
    have hne : M ≠ r := by
      rintro rfl
      rw [hM] at hr
      cases hr
    refine ⟨A, B, x, _, by rw [hAC, hxB], by rw [hrun, hx.1, hx.2], ⟨es, cl, seen.push e.born, ?_, ?_, hp, hb, ?_⟩, ?_, ?_, ?_⟩
    · show (w1.heap.setIfInBounds r _)[M]? = _
      rw [hw1h, Array.getElem?_setIfInBounds_ne hne.symm]
      exact hM
    · show (w1.heap.setIfInBounds r _)[r]? = _
      rw [hw1h]
      simp [hlt]
    · rw [hnew, List.map_append, List.map_append, hA, hB]
    · refine ⟨by rcases hw1 with rfl | rfl <;> rfl, by rcases hw1 with rfl | rfl <;> rfl, by rcases hw1 with rfl | rfl <;> rfl, ?_, fun j hj hn => ?_⟩
      · show _ ≤ (w1.heap.setIfInBounds r _).size
        rw [hw1h]; simp
      · show (w1.heap.setIfInBounds r _)[j]? = _
        rw [hw1h, Array.getElem?_setIfInBounds_ne (Ne.symm hn)]
    · show (w1.heap.setIfInBounds r _).size = _
      rw [hw1h]; simp
    · rw [hx.1, hx.2]
      refine run_entry_at _ r M cl seen es cl e ?_ ?_ (List.mem_filter.1 he).1 (by rw [List.Nodup, List.pairwise_map]; exact hp)
      · show (w1.heap.setIfInBounds r _)[r]? = _
        rw [hw1h]
        simp [hlt]
      · show (w1.heap.setIfInBounds r _)[M]? = _
        rw [hw1h, Array.getElem?_setIfInBounds_ne hne.symm]
        exact hM
end
end Go.Proofs.YtjacllnmpenbmaaDoor
