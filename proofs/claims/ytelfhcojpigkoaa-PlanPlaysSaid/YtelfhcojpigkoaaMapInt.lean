/- Plain laws on maps with integer keys that the call itself made: what a lookup, a store, a delete, len, clear give. No program. -/
import Derived.Test.YtelfhcojpigkoaaRow
import Derived.Maps.Own
namespace Go.Proofs.Ytelfhcojpigkoaa
open Go Go.RowKit

/-- Block M is a map whose entries, in the order in which they came, are l. -/
def MapAt (w : World) (M : Nat) (k : IntKind) (l : List (Int × Value)) : Prop :=
  ∃ (es : Array MapEntry) (clock : Nat), w.heap[M]? = some (.map es clock) ∧ es.toList.map (fun e => (e.key, e.val)) = l.map (fun p => (Value.int k p.1, p.2)) ∧
    es.toList.Pairwise (fun a b => a.born ≠ b.born) ∧ ∀ e ∈ es.toList, e.born < clock

def mget (l : List (Int × Value)) (a : Int) : Option Value := (l.find? (fun p => p.1 == a)).map (·.2)
def mput (l : List (Int × Value)) (a : Int) (v : Value) : List (Int × Value) :=
  if l.any (fun p => p.1 == a) then l.modify (l.findIdx (fun p => p.1 == a)) (fun p => (p.1, v)) else l ++ [(a, v)]
def mdel (l : List (Int × Value)) (a : Int) : List (Int × Value) := l.eraseIdx (l.findIdx (fun p => p.1 == a))

section
variable {w w' : World} {M : Nat} {k : IntKind} {l : List (Int × Value)} {P : Program}
theorem MapAt.lt (h : MapAt w M k l) : M < w.heap.size := by obtain ⟨es, cl, h, _⟩ := h; exact lt_of_heap h
theorem MapAt.mod {S : Nat → Prop} (h : MapAt w M k l) (hm : Mod S w w') (hn : ¬ S M) : MapAt w' M k l := by
  obtain ⟨es, cl, h, r⟩ := h
  exact ⟨es, cl, hm.heap h hn, r⟩
theorem MapAt.drew (h : MapAt w M k l) : MapAt w.drew M k l := h
theorem MapAt.alloc (h : MapAt w M k l) (o : Obj) : MapAt (w.alloc o) M k l := h.mod ((Mod.refl NoB w).alloc o) (fun h => h)
theorem MapAt.setCell (h : MapAt w M k l) {a : Addr} (hn : M ≠ a.block) (u : Value) : MapAt (w.setCell a u) M k l :=
  h.mod ((Mod.refl (fun k => k = a.block) w).setCell u (fun _ => rfl)) hn
theorem MapAt.new (w : World) (k : IntKind) : MapAt (w.alloc (.map #[] 0)) w.heap.size k [] := ⟨#[], 0, heap_alloc_new w _, rfl, List.Pairwise.nil, by simp⟩
theorem mget_app_new {a b : Int} {v : Value} (h : mget l a = none) : mget (l ++ [(a, v)]) b = if a = b then some v else mget l b := by
  unfold mget
  rw [List.find?_append]
  by_cases hab : a = b
  · subst hab
    unfold mget at h
    rw [Option.map_eq_none_iff] at h
    simp [h]
  · cases hf : l.find? (fun p => p.1 == b) with
    | some x => simp [hab]
    | none => simp [hab]
theorem MapAt.ne_blk {g : Nat} {e : TypeId} {c : List Value} (h : MapAt w M k l) (hb : Blk w g e c) : M ≠ g := by
  rintro rfl
  obtain ⟨es, cl, h, _⟩ := h
  unfold Blk at hb
  rw [h] at hb
  cases hb

theorem findNow_int (k : IntKind) (a : Int) : ∀ (es : List MapEntry) (l : List (Int × Value)) (i : Nat), es.map (fun e => (e.key, e.val)) = l.map (fun p => (Value.int k p.1, p.2)) →
    Instr.findNow (.int k) (.int k a) es i = some ((mget l a).map (fun v => (i + l.findIdx (fun p => p.1 == a), v)))
  | [], [], i, _ => rfl
  | e :: es, p :: l, i, h => by
    simp only [List.map_cons, List.cons.injEq, Prod.mk.injEq] at h
    obtain ⟨⟨hk, hv⟩, h⟩ := h
    unfold Instr.findNow
    rw [hk]
    simp only [Instr.sameNow, if_true]
    by_cases hp : p.1 = a
    · subst hp
      simp [mget, List.findIdx_cons, hv]
    · have h1 : (a == p.1) = false := by simp; exact fun h => hp h.symm
      have h2 : (p.1 == a) = false := by simp; exact hp
      rw [h1]
      simp only []
      rw [findNow_int k a es l (i + 1) h]
      simp [mget, List.findIdx_cons, h2, List.find?_cons]
      congr 1
      funext v
      simp
      omega
  | [], p :: l, i, h => by cases h
  | e :: es, [], i, h => by cases h

theorem run_findKey_int {kt : TypeId} (hk : P.underlying kt = some (.int k)) (a : Int) (es : List MapEntry) (l : List (Int × Value)) (h : es.map (fun e => (e.key, e.val)) = l.map (fun p => (Value.int k p.1, p.2))) :
    (Instr.findKey kt (.int k a) es).run P w = .ok ((mget l a).map (fun v => (l.findIdx (fun p => p.1 == a), v))) w := by
  simp [Instr.findKey, run_underlying hk, findNow_int k a es l 0 h]
theorem run_checkKey_int' {kt : TypeId} (hk : P.underlying kt = some (.int k)) (a : Int) (b : Bool) (n : Nat) : (Instr.checkKey b (n + 1) kt (.int k a)).run P w = .ok () w := by
  simp [Instr.checkKey, run_underlying hk]
theorem run_checkKey_int {kt : TypeId} (hk : P.underlying kt = some (.int k)) (a : Int) (b : Bool) : (Instr.checkKey b 10000 kt (.int k a)).run P w = .ok () w := run_checkKey_int' hk a b 9999

theorem run_lookup_int {t kt et : TypeId} (ht : P.underlying t = some (.map kt et)) (hk : P.underlying kt = some (.int k)) {z : Value} (hz : ∀ w, (zeroValue et).run P w = .ok z w) (h : MapAt w M k l) (a : Int) :
    (Instr.lookup t (.map (some M)) (.int k a) false).run P w = .ok ((mget l a).getD z) w := by
  obtain ⟨es, cl, hM, he, -, -⟩ := h
  have h1 := run_findKey_int (P := P) (w := w) hk a es.toList l he
  cases hg : mget l a with
  | none => simp [Instr.lookup, run_underlying ht, getObj, Sem.run, hM, run_checkKey_int hk, h1, hg, hz]
  | some v => simp [Instr.lookup, run_underlying ht, getObj, Sem.run, hM, run_checkKey_int hk, h1, hg]
theorem run_lookup_int_ok {t kt et : TypeId} (ht : P.underlying t = some (.map kt et)) (hk : P.underlying kt = some (.int k)) {z : Value} (hz : ∀ w, (zeroValue et).run P w = .ok z w) (h : MapAt w M k l) (a : Int) :
    (Instr.lookup t (.map (some M)) (.int k a) true).run P w = .ok (.tuple #[(mget l a).getD z, .bool (mget l a).isSome]) w := by
  obtain ⟨es, cl, hM, he, -, -⟩ := h
  have h1 := run_findKey_int (P := P) (w := w) hk a es.toList l he
  cases hg : mget l a with
  | none => simp [Instr.lookup, run_underlying ht, getObj, Sem.run, hM, run_checkKey_int hk, h1, hg, hz]
  | some v => simp [Instr.lookup, run_underlying ht, getObj, Sem.run, hM, run_checkKey_int hk, h1, hg]
theorem run_len_map {t kt et ty : TypeId} (ht : P.underlying t = some (.map kt et)) (h : MapAt w M k l) : (Builtin.len_ #[t] ty #[.map (some M)]).run P w = .ok (.int .i64 l.length) w := by
  obtain ⟨es, cl, hM, he, -, -⟩ := h
  have : es.size = l.length := by have := congrArg List.length he; simpa using this
  simp [Builtin.len_, run_underlying ht, getObj, Sem.run, hM, this, goInt]
theorem mget_none {a : Int} (h : mget l a = none) : l.any (fun p => p.1 == a) = false := by
  unfold mget at h
  rw [Option.map_eq_none_iff, List.find?_eq_none] at h
  rw [List.any_eq_false]
  exact h
/-- A store under a new key. -/
theorem run_mapUpdate_new {t kt et : TypeId} (ht : P.underlying t = some (.map kt et)) (hk : P.underlying kt = some (.int k)) (h : MapAt w M k l) (a : Int) (v : Value) (hn : mget l a = none) :
    ∃ w', (Instr.mapUpdate t (.map (some M)) (.int k a) v).run P w = .ok () w' ∧ MapAt w' M k (l ++ [(a, v)]) ∧ Mod (· = M) w w' := by
  obtain ⟨es, cl, hM, he, hp, hb⟩ := h
  have h1 := run_findKey_int (P := P) (w := w) hk a es.toList l he
  refine ⟨{ w with heap := w.heap.setIfInBounds M (.map (es.push { key := .int k a, val := v, born := cl }) (cl + 1)) }, ?_, ⟨es.push { key := .int k a, val := v, born := cl }, cl + 1, ?_, ?_, ?_, ?_⟩, ⟨rfl, rfl, rfl, by simp, ?_⟩⟩
  · simp [Instr.mapUpdate, run_underlying ht, getObj, setObj, Sem.run, hM, run_checkKey_int hk, h1, hn]
  · have := lt_of_heap hM
    simp [this]
  · simp [he]
  · simp only [Array.toList_push, List.pairwise_append, List.mem_singleton]
    exact ⟨hp, by simp, fun x hx y hy => by subst hy; have := hb x hx; simp; omega⟩
  · intro e he'
    simp only [Array.toList_push, List.mem_append, List.mem_singleton] at he'
    rcases he' with he' | rfl
    · have := hb e he'; omega
    · simp
  · intro j hj hn
    simp [Array.getElem?_setIfInBounds, Ne.symm hn]
theorem map_eraseIdx' {α β : Type} (f : α → β) : ∀ (l : List α) (i : Nat), (l.eraseIdx i).map f = (l.map f).eraseIdx i
  | [], _ => rfl
  | a :: l, 0 => rfl
  | a :: l, i + 1 => by simp [map_eraseIdx' f l i]
/-- delete of a key that is there. -/
theorem run_delete_map {t kt et ty : TypeId} (ht : P.underlying t = some (.map kt et)) (hk : P.underlying kt = some (.int k)) (h : MapAt w M k l) (a : Int) (hs : (mget l a).isSome = true) :
    ∃ w', (Builtin.delete_ #[t, kt] ty #[.map (some M), .int k a]).run P w = .ok (.tuple #[]) w' ∧ MapAt w' M k (mdel l a) ∧ Mod (· = M) w w' := by
  obtain ⟨es, cl, hM, he, hp, hb⟩ := h
  have h1 := run_findKey_int (P := P) (w := w) hk a es.toList l he
  obtain ⟨v, hv⟩ := Option.isSome_iff_exists.1 hs
  refine ⟨{ w with heap := w.heap.setIfInBounds M (.map (es.eraseIdxIfInBounds (l.findIdx (fun p => p.1 == a))) cl) }, ?_, ⟨es.eraseIdxIfInBounds (l.findIdx (fun p => p.1 == a)), cl, ?_, ?_, ?_, ?_⟩, ⟨rfl, rfl, rfl, by simp, ?_⟩⟩
  · simp [Builtin.delete_, run_underlying ht, getObj, setObj, Sem.run, hM, run_checkKey_int hk, h1, hv]
  · have := lt_of_heap hM
    simp [this]
  · rw [Array.toList_eraseIdxIfInBounds, mdel, map_eraseIdx', map_eraseIdx', he]
  · rw [Array.toList_eraseIdxIfInBounds]; exact hp.sublist (List.eraseIdx_sublist _ _)
  · intro e he'
    rw [Array.toList_eraseIdxIfInBounds] at he'
    exact hb e (List.mem_of_mem_eraseIdx he')
  · intro j hj hn
    simp [Array.getElem?_setIfInBounds, Ne.symm hn]
/-- 'm[a] = v' in a statement of several: the entry is made first, then its value is stored: a new key. -/
theorem run_mapEntry_new {t kt et : TypeId} (ht : P.underlying t = some (.map kt et)) (hk : P.underlying kt = some (.int k)) {z : Value} (hz : ∀ w, (zeroValue et).run P w = .ok z w) (h : MapAt w M k l) (a : Int) (hn : mget l a = none) :
    ∃ (w1 : World) (st : Int), (Instr.mapEntry t (.map (some M)) (.int k a)).run P w = .ok (.tuple #[z, .int .i64 st]) w1 ∧ Mod (· = M) w w1 ∧
      ∀ v, ∃ w2, (Instr.entryStore t (.map (some M)) (.int .i64 st) v).run P w1 = .ok () w2 ∧ MapAt w2 M k (l ++ [(a, v)]) ∧ Mod (· = M) w w2 := by
  obtain ⟨es, cl, hM, he, hp, hb⟩ := h
  have h1 := run_findKey_int (P := P) (w := w) hk a es.toList l he
  have hlt := lt_of_heap hM
  refine ⟨{ w with heap := w.heap.setIfInBounds M (.map (es.push { key := .int k a, val := z, born := cl }) (cl + 1)) }, (cl : Int), ?_, ⟨rfl, rfl, rfl, by simp, ?_⟩, fun v => ?_⟩
  · simp [Instr.mapEntry, run_underlying ht, getObj, setObj, Sem.run, hM, run_checkKey_int hk, h1, hn, hz, goInt]
  · intro j hj hn
    simp [Array.getElem?_setIfInBounds, Ne.symm hn]
  · have hfi : (es.push { key := .int k a, val := z, born := cl }).findIdx? (fun e => (e.born : Int) == (cl : Int)) = some es.size := by
      have e0 : (es.push { key := .int k a, val := z, born := cl }) = (es.toList ++ [({ key := .int k a, val := z, born := cl } : MapEntry)]).toArray := by apply Array.toList_inj.1; rw [Array.toList_push]
      rw [e0, List.findIdx?_toArray, List.findIdx?_append]
      have : es.toList.findIdx? (fun e => (e.born : Int) == (cl : Int)) = none := by
        rw [List.findIdx?_eq_none_iff]
        intro x hx
        have := hb x hx
        simp
        omega
      rw [this]
      simp [List.findIdx?_cons]
    refine ⟨{ w with heap := w.heap.setIfInBounds M (.map (es.push { key := .int k a, val := v, born := cl }) (cl + 1)) }, ?_, ⟨es.push { key := .int k a, val := v, born := cl }, cl + 1, ?_, ?_, ?_, ?_⟩, ⟨rfl, rfl, rfl, by simp, ?_⟩⟩
    · have hmod : ((es.push { key := .int k a, val := z, born := cl }).modify es.size fun e => { e with val := v }) = es.push { key := .int k a, val := v, born := cl } := by
        apply Array.ext_getElem?
        intro i
        rw [Array.getElem?_modify]
        by_cases hi : es.size = i
        · subst hi; simp
        · simp [hi, Array.getElem?_push, Ne.symm hi]
      simp [Instr.entryStore, getObj, setObj, Sem.run, hlt, hfi, hmod, asInt, asIntOf]
    · simp [hlt]
    · simp [he]
    · simp only [Array.toList_push, List.pairwise_append, List.mem_singleton]
      exact ⟨hp, by simp, fun x hx y hy => by subst hy; have := hb x hx; simp; omega⟩
    · intro e he'
      simp only [Array.toList_push, List.mem_append, List.mem_singleton] at he'
      rcases he' with he' | rfl
      · have := hb e he'; omega
      · simp
    · intro j hj hn
      simp [Array.getElem?_setIfInBounds, Ne.symm hn]
theorem run_clear_map {t kt et ty : TypeId} (ht : P.underlying t = some (.map kt et)) (h : MapAt w M k l) :
    ∃ w', (Builtin.clear_ #[t] ty #[.map (some M)]).run P w = .ok (.tuple #[]) w' ∧ MapAt w' M k [] ∧ Mod (· = M) w w' := by
  obtain ⟨es, cl, hM, he, hp, hb⟩ := h
  refine ⟨{ w with heap := w.heap.setIfInBounds M (.map #[] cl) }, ?_, ⟨#[], cl, ?_, rfl, List.Pairwise.nil, by simp⟩, ⟨rfl, rfl, rfl, by simp, ?_⟩⟩
  · simp [Builtin.clear_, run_underlying ht, getObj, setObj, Sem.run, hM]
  · have := lt_of_heap hM
    simp [this]
  · intro j hj hn
    simp [Array.getElem?_setIfInBounds, Ne.symm hn]
end

theorem own_ne_map {w : World} {B e size n M : Nat} {k : IntKind} {ml : List (Int × Value)} {v : Value} {xs : List Value} (h : w.ownsRow B e size v n xs) (hm : MapAt w M k ml) : v.ownBlock ≠ some M := by
  intro hg
  obtain ⟨c, hc⟩ := own_elem h hg
  obtain ⟨es, cl, hm, _⟩ := hm
  rw [hc] at hm
  cases hm
end Go.Proofs.Ytelfhcojpigkoaa
