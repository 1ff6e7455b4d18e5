/- Plain laws on blocks that are known whole: copy, clear, append with room, append that grows, over elements of any size; each as a run, as a step of a list, as a step of a region that draws. No program. -/
import Derived.Test.YtjacllnmpenbmaaDoorMem
import Derived.Laws.CopyOwn
import Derived.Laws.OwnMore
import Derived.Deep.MidRow
import Derived.Deep.RegionLaw
namespace Go.Proofs.YtjacllnmpenbmaaDoor
open Go Go.RowKit

def Blk (w : World) (g : Nat) (e : TypeId) (l : List Value) : Prop := w.heap[g]? = some (.cells l.toArray e (0, 0))
def Arr (w : World) (a : Addr) (l : List Value) : Prop := ∀ j u, l[j]? = some u → w.cell? (a.add j) = some u
def Ones (l : List Value) : Prop := ∀ u ∈ l, u.oneCell' = true

section
variable {w w' : World} {g : Nat} {e : TypeId} {l l' : List Value}
theorem Blk.lt (h : Blk w g e l) : g < w.heap.size := lt_of_heap h
theorem Blk.cell (h : Blk w g e l) (k : Nat) : w.cell? ⟨g, k, none⟩ = l[k]? := by rw [cell_of h]; simp
theorem Blk.frozen (h : Blk w g e l) (k : Nat) : w.frozen? ⟨g, k, none⟩ = false := frozen_of h k
theorem Blk.mod {S : Nat → Prop} (h : Blk w g e l) (hm : Mod S w w') (hn : ¬ S g) : Blk w' g e l := hm.heap h hn
theorem Blk.drew (h : Blk w g e l) : Blk w.drew g e l := h
theorem Blk.alloc (h : Blk w g e l) (o : Obj) : Blk (w.alloc o) g e l := (Below.heap_alloc w o g h.lt).trans h
theorem Blk.new (w : World) (e : TypeId) (l : List Value) : Blk (w.alloc (.cells l.toArray e)) w.heap.size e l := heap_alloc_new w _
theorem Blk.setRow (h : Blk w g e l) (l' : List Value) : Blk (w.setRow g l'.toArray) g e l' := setRow_heap w g _ _ e _ h
theorem Blk.setRow_other (h : Blk w g e l) {k : Nat} (hk : g ≠ k) (c : Array Value) : Blk (w.setRow k c) g e l := (Go.setRow_other w k g c hk).trans h
theorem Blk.setCell (h : Blk w g e l) (k : Nat) (u : Value) : Blk (w.setCell ⟨g, k, none⟩ u) g e (l.set k u) := by
  unfold Blk at *
  rw [setCell_eq_setRow w g k _ e _ u h, setRow_heap w g _ _ e _ h]
  simp
theorem Blk.setCell_other (h : Blk w g e l) {a : Addr} (hk : g ≠ a.block) (u : Value) : Blk (w.setCell a u) g e l := (heap_setCell_other w a g u hk).trans h
theorem Blk.ne {g' : Nat} {e' : TypeId} {l'' : List Value} (h : Blk w g e l) (h' : Blk w g' e' l'') (hne : e ≠ e') : g ≠ g' := by
  rintro rfl
  unfold Blk at *
  rw [h] at h'
  simp at h'
  exact hne h'.2
theorem Blk.arr (h : Blk w g e l) (o : Nat) : Arr w ⟨g, o, none⟩ (l.drop o) := fun j u hu => by
  rw [Addr.add_mid, h.cell]
  simpa using hu
theorem Blk.arr_take (h : Blk w g e l) (o n : Nat) : Arr w ⟨g, o, none⟩ ((l.drop o).take n) := fun j u hu => by
  rw [List.getElem?_take] at hu
  split at hu
  · exact h.arr o j u hu
  · cases hu
theorem Arr.mod {S : Nat → Prop} {a : Addr} (h : Arr w a l) (hm : Mod S w w') (hn : ¬ S a.block) : Arr w' a l := fun j u hu =>
  hm.cell (h j u hu) (by have : (a.add j).block = a.block := by unfold Addr.add; split <;> rfl
                         rwa [this])
theorem Arr.alloc {a : Addr} (h : Arr w a l) (o : Obj) : Arr (w.alloc o) a l := fun j u hu => by
  have := h j u hu
  rw [World.cell?_of_block (Below.heap_alloc w o _ (World.block_lt_of_cell? w _ this))]
  exact this
theorem Mod.setRow {S : Nat → Prop} {w0 : World} (h : Mod S w0 w) (hg : g < w0.heap.size → S g) (c : Array Value) : Mod S w0 (w.setRow g c) :=
  ⟨h.os, h.tape, h.output, by have := h.size; simpa using this, fun k hk hn => by
    rw [Go.setRow_other w g k c (fun e => hn (e ▸ hg (e ▸ hk)))]
    exact h.block k hk hn⟩
theorem own_mono {base base' size n : Nat} {v : Value} {xs : List Value} (h : w.ownsRow base e size v n xs) (hb : base' ≤ base) : w.ownsRow base' e size v n xs := by
  refine ⟨h.1, ?_⟩
  rcases h.2 with h' | ⟨g', cap', cur, h', hb', r⟩
  · exact .inl h'
  · exact .inr ⟨g', cap', cur, h', by omega, r⟩
theorem own_blk {base size n c : Nat} {xs : List Value} (h : w.ownsRow base e size (.slice (some ⟨g, 0, none⟩) n c) n xs) :
    ∃ l, Blk w g e l ∧ l.length = c * size ∧ l.take (n * size) = xs ∧ base ≤ g ∧ n ≤ c ∧ c ≤ maxLen := by
  rcases h.2 with ⟨h', _⟩ | ⟨g', cap', cur, h', hb, hg, h1, h2, h3, h4⟩
  · simp at h'
  · simp only [Value.slice.injEq, Option.some.injEq, Addr.mk.injEq, and_true, true_and] at h'
    obtain ⟨rfl, rfl⟩ := h'
    exact ⟨cur.toList, by unfold Blk; simpa using hg, by simpa using h3, h4, hb, h1, h2⟩
theorem blk_own {base size n c : Nat} (h : Blk w g e l) (hl : l.length = c * size) (hb : base ≤ g) (hn : n ≤ c) (hc : c ≤ maxLen) :
    w.ownsRow base e size (.slice (some ⟨g, 0, none⟩) n c) n (l.take (n * size)) :=
  ⟨by rw [List.length_take, hl]; exact Nat.min_eq_left (Nat.mul_le_mul_right _ hn), .inr ⟨g, c, l.toArray, rfl, hb, h, hn, hc, by simpa using hl, by simp⟩⟩
end

section
variable {P : Program} {ops : Array Oper} {rest : List Oper} {o : Oper} {a : Act} {w w' : World} {K : Act → World → Prop} {Q : Exit → Act → World → Prop} {v : Value}

theorem wp_of_run (hr : (execOp a.eval o).run P w = .ok (.value v) w') (h : K (a.put o.dst v) w') : o.wp P a w K Q := by
  unfold Oper.wp
  rw [hr]
  exact h
theorem wpList_of_run (hgd : o.guard = none) (hr : (execOp a.eval o).run P w = .ok (.value v) w') (h : wpList P ops Q rest (a.put o.dst v) w') : wpList P ops Q (o :: rest) a w :=
  wpList_plain hgd fun _ hK => wp_of_run hr (hK _ _ h)
theorem step_of_run {E : Prop} (hgd : o.guard = none) (hr : (execOp a.eval o).run P w = .ok (.value v) w') (hK : K (a.put o.dst v) w') :
    if Region.wanted o (yielded ops a.tmps) = true then Oper.wp P o a w K Q else E := by
  rw [if_pos (by simp [Region.wanted, hgd])]
  exact wp_of_run hr hK
/-- A call of a builtin of two arguments, by the builtin's own run. -/
theorem exec_builtin2 {b : Builtin} {F : Array TypeId → TypeId → Array Value → Sem Value} (hF : ∀ ats ty cs args, builtin b ats ty cs args = (do pure (.value (← F ats ty args)))) (s x : Operand) (t tn : TypeId)
    (ho : o.op = .call { callee := .builtin b, args := #[s, x], argTypes := #[t, tn] }) {vs vx : Value} (hs : a.eval s = vs) (hx : a.eval x = vx)
    (hr : (F #[t, tn] o.type #[vs, vx]).run P w = .ok v w') : (execOp a.eval o).run P w = .ok (.value v) w' := by
  unfold execOp
  simp only [ho, resolve, invoke, hF, Sem.run_bind, Sem.run_pure, Result.andThen_ok, List.map_toArray, List.map_cons, List.map_nil, hs, hx, hr]
theorem exec_builtin1 {b : Builtin} {F : Array TypeId → TypeId → Array Value → Sem Value} (hF : ∀ ats ty cs args, builtin b ats ty cs args = (do pure (.value (← F ats ty args)))) (s : Operand) (t : TypeId)
    (ho : o.op = .call { callee := .builtin b, args := #[s], argTypes := #[t] }) {vs : Value} (hs : a.eval s = vs)
    (hr : (F #[t] o.type #[vs]).run P w = .ok v w') : (execOp a.eval o).run P w = .ok (.value v) w' := by
  unfold execOp
  simp only [ho, resolve, invoke, hF, Sem.run_bind, Sem.run_pure, Result.andThen_ok, List.map_toArray, List.map_cons, List.map_nil, hs, hr]
end

theorem Ones.splice {l news : List Value} (h : Ones l) (hn : Ones news) (k : Nat) : Ones (Go.splice l k news) := by
  intro u hu
  unfold Go.splice at hu
  simp only [List.mem_append] at hu
  rcases hu with hu | hu | hu
  · exact h u (List.mem_of_mem_take hu)
  · exact hn u hu
  · exact h u (List.mem_of_mem_drop hu)
theorem Ones.take {l : List Value} (h : Ones l) (k : Nat) : Ones (l.take k) := fun u hu => h u (List.mem_of_mem_take hu)
theorem Ones.drop {l : List Value} (h : Ones l) (k : Nat) : Ones (l.drop k) := fun u hu => h u (List.mem_of_mem_drop hu)
theorem Ones.app {l l' : List Value} (h : Ones l) (h' : Ones l') : Ones (l ++ l') := fun u hu => (List.mem_append.1 hu).elim (h u) (h' u)
theorem Ones.rep {l : List Value} (h : Ones l) (k : Nat) : Ones (List.replicate k l).flatten := by
  intro u hu
  obtain ⟨x, hx, hu'⟩ := List.mem_flatten.1 hu
  rw [List.eq_of_mem_replicate hx] at hu'
  exact h u hu'
theorem take_splice {α : Type} (l news : List α) (n : Nat) (h : news.length = n) : (splice l 0 news).take n = news := by
  simp [splice, ← h]
theorem take_splice_after {α : Type} (l news : List α) (k n : Nat) (h : n ≤ k) (hk : k ≤ l.length) : (splice l k news).take n = l.take n := by
  unfold splice
  rw [List.take_append_of_le_length (by simp; omega), List.take_take]
  congr 1
  omega

section
variable {P : Program} {w : World} {e : TypeId}
/-- copy(d, s): both ways of a slice's cells; the target's block is known whole. -/
theorem run_copy_blk {dT sT ty elem : TypeId} {size g o dLen dCap sLen sCap : Nat} {a : Addr} {l cs : List Value} (hu : P.underlying dT = some (.slice elem)) (hs : (P.info? elem).map (·.size) = some size)
    (hg : Blk w g e l) (hn : cs.length = Nat.min sLen dLen * size) (hsrc : Arr w a cs) (hfit : o + cs.length ≤ l.length) (h1 : Ones cs) :
    (Builtin.copy_ #[dT, sT] ty #[.slice (some ⟨g, o, none⟩) dLen dCap, .slice (some a) sLen sCap]).run P w = .ok (goInt (Nat.min sLen dLen)) (w.setRow g (splice l o cs).toArray) := by
  have hl := run_loadCells_list (P := P) w a cs hsrc
  have hst := run_storeCells_at P g o e cs 0 l.toArray w hg (by simpa using hfit) h1
  cases hq : P.info? elem with
  | none => simp [hq] at hs
  | some i =>
    have hi : i.size = size := by simpa [hq] using hs
    rw [hn] at hl
    simp [Builtin.copy_, run_underlying hu, Builtin.lenOf, Builtin.firstCells, sizeOf, typeInfo, hq, hi, hl, hst, splice]
theorem toList_zeroCells (z : Array Value) (n : Nat) : (Builtin.zeroCells z n).toList = (List.replicate n z.toList).flatten := by
  unfold Builtin.zeroCells
  induction n with
  | zero => simp
  | succ n ih =>
    rw [List.replicate_succ', List.flatten_append, ← ih]
    simp only [Array.toList_map, Array.toList_range, Nat.add_mul, Nat.one_mul, List.range_add, List.map_append, List.map_map]
    congr 1
    simp only [List.flatten_cons, List.flatten_nil, List.append_nil]
    apply List.ext_getElem
    · simp
    · intro i h1 h2
      have : i < z.size := by simpa using h2
      simp only [List.getElem_map, List.getElem_range, Function.comp_apply]
      have hz : (n * z.size + i) % z.size = i := by rw [Nat.mul_comm, Nat.mul_add_mod]; exact Nat.mod_eq_of_lt this
      rw [hz]
      simp [this]
theorem length_zeros (z : List Value) (n : Nat) : (List.replicate n z).flatten.length = n * z.length := by simp
/-- clear(s). -/
theorem run_clear_blk {t ty elem : TypeId} {z : Value} {zl : List Value} {g o n c : Nat} {l : List Value} (ht : P.underlying t = some (.slice elem)) (hv : ∀ w, (zeroValue elem).run P w = .ok z w) (hz : z.cells = zl.toArray) (h1 : Ones zl)
    (hg : Blk w g e l) (hn : 0 < n) (hfit : o + n * zl.length ≤ l.length) :
    (Builtin.clear_ #[t] ty #[.slice (some ⟨g, o, none⟩) n c]).run P w = .ok (.tuple #[]) (w.setRow g (splice l o (List.replicate n zl).flatten).toArray) := by
  have hst := run_storeCells_at P g o e (List.replicate n zl).flatten 0 l.toArray w hg (by simpa using hfit) (fun u hu => by
    obtain ⟨x, hx, hu'⟩ := List.mem_flatten.1 hu
    rw [List.eq_of_mem_replicate hx] at hu'
    exact h1 u hu')
  obtain ⟨m, rfl⟩ : ∃ m, n = m + 1 := ⟨n - 1, by omega⟩
  have hz' : (Builtin.zeroCells z.cells (m + 1)).toList = (List.replicate (m + 1) zl).flatten := by rw [toList_zeroCells, hz]
  simp only [Builtin.clear_]
  simp at hst
  simp [hst, splice, run_underlying ht, hv, hz']
theorem run_clear_none {t ty elem : TypeId} {x : Option Addr} {c : Nat} (ht : P.underlying t = some (.slice elem)) : (Builtin.clear_ #[t] ty #[.slice x 0 c]).run P w = .ok (.tuple #[]) w := by
  cases x <;> simp [Builtin.clear_, run_underlying ht]
/-- append(s, x...) where there is room. -/
theorem run_append_blk {t ty elem : TypeId} {i : TypeInfo} {size g n c m c' : Nat} {a : Addr} {l news : List Value} (ht : P.underlying t = some (.slice elem)) (hi : P.info? elem = some i) (hs : i.size = size)
    (hg : Blk w g e l) (hl : news.length = m * size) (hnews : Arr w a news) (h1 : Ones news) (hroom : n + m ≤ c) (hfit : n * size + news.length ≤ l.length) :
    (Builtin.append_ #[t, t] ty #[.slice (some ⟨g, 0, none⟩) n c, .slice (some a) m c']).run P w = .ok (.slice (some ⟨g, 0, none⟩) (n + m) c) (w.setRow g (splice l (n * size) news).toArray) := by
  subst hs
  have hfc := run_firstCells_some (P := P) w i.size m a m c' news hl hnews
  have hst := run_storeCells_at P g (n * i.size) e news 0 l.toArray w hg (by simpa using hfit) h1
  simp only [Nat.add_zero] at hst
  simp [Builtin.append_, run_underlying ht, sizeOf, typeInfo, hi, Builtin.lenOf, hroom, hfc, Addr.add_lit, hst, splice]
end

section
variable {P : Program} {w : World} {e : TypeId} {base size bytes : Nat} {t : TypeId} {i : TypeInfo} {z : Value}
/-- What is asked of an element's type ahead of an append. -/
structure ElemT (P : Program) (t e : TypeId) (size bytes : Nat) : Prop where
  ex : ∃ (i : TypeInfo) (z : Value), P.info? e = some i ∧ i.zero = some z ∧ i.size = size ∧ i.bytes = bytes ∧ z.cells.size = size
  ht : P.underlying t = some (.slice e)
  pos : 0 < size
theorem ElemT.mk' {z : Value} (h : (P.info? e).map (fun i => (i.zero, i.size, i.bytes)) = some (some z, size, bytes)) (ht : P.underlying t = some (.slice e)) (hp : 0 < size) (hz : z.cells.size = size) : ElemT P t e size bytes := by
  obtain ⟨i0, hi, h0, h1, h2⟩ := info_parts h
  exact ⟨⟨i0, z, hi, h0, h1, h2, hz⟩, ht, hp⟩
/-- append(s, x...) onto a slice of one's own: in place, or in a new row; where the new slice lies is told. -/
theorem append_own (E : ElemT P t e size bytes) {v : Value} {n : Nat} {xs : List Value} (hown : w.ownsRow base e size v n xs) {a : Addr} {m : Nat} {news : List Value} (hl : news.length = m * size) (hnews : Arr w a news) (h1 : Ones news)
    (h63 : n + m ≤ maxLen) (hbytes : (n + m) * bytes ≤ 140737488355328) (hbase : base ≤ w.heap.size) :
    ∃ v' w', (∀ ty c, (Builtin.append_ #[t, t] ty #[v, .slice (some a) m c]).run P w = .ok v' w') ∧ w'.ownsRow base e size v' (n + m) (xs ++ news) ∧ Mod (fun k => v.ownBlock = some k) w w' ∧
      (∀ g, v'.ownBlock = some g → v.ownBlock = some g ∨ w.heap.size ≤ g) ∧ (v' = .slice none 0 0 → v = .slice none 0 0 ∧ m = 0) := by
  obtain ⟨⟨i, z, hi, hz, hs, hby, hzs⟩, ht, hpos⟩ := E
  subst hs hby
  have hm := h63
  unfold maxLen at hm
  by_cases hnil : v = .slice none 0 0 ∧ m = 0
  · obtain ⟨rfl, rfl⟩ := hnil
    have : news = [] := List.eq_nil_of_length_eq_zero (by simpa using hl)
    subst this
    refine ⟨.slice none 0 0, w, fun ty c => ?_, by simpa using hown, Mod.refl _ _, fun g h => .inl h, fun _ => ⟨rfl, rfl⟩⟩
    have h0 : n = 0 := by
      rcases hown.2 with ⟨_, h⟩ | ⟨g, cap, cur, h, _⟩
      · exact h
      · cases h
    simp [Builtin.append_, run_underlying ht, sizeOf, typeInfo, hi, Builtin.lenOf, Builtin.firstCells, loadCells, loadCellsFrom]
  · have two : ∃ v' w', (∀ ty c, (Builtin.append_ #[t, t] ty #[v, .slice (some a) m c]).run P w = .ok v' w') ∧ (∀ g, v'.ownBlock = some g → v.ownBlock = some g ∨ w.heap.size ≤ g) ∧ v' ≠ .slice none 0 0 := by
      rcases hown.2 with ⟨rfl, rfl⟩ | ⟨g, cap, cur, rfl, hbg, hg, hnc, hcm, hcs, htake⟩
      · have hm0 : m ≠ 0 := fun h => hnil ⟨rfl, h⟩
        exact ⟨_, _, fun ty c => run_append_nil (P := P) w t ty e i z ht hi hz a m c news hl hnews (by omega) (by omega) (by simp at hbytes; omega), fun g h => .inr (by simp [Value.ownBlock] at h; omega), by simp⟩
      · by_cases hroom : n + m ≤ cap
        · have hb : Blk w g e cur.toList := by unfold Blk; simpa using hg
          exact ⟨_, _, fun ty c => run_append_blk (P := P) ht hi rfl hb hl hnews h1 hroom (by rw [hl]; simp only [Array.length_toList]; rw [hcs, ← Nat.add_mul]; exact Nat.mul_le_mul_right _ hroom), fun g' h => .inl (by simpa [Value.ownBlock] using h), by simp⟩
        · exact ⟨_, _, fun ty c => run_append_grow (P := P) w t ty e i z ht hi hz ⟨g, 0, none⟩ n cap xs hown.1 (hown.cells (g := g) rfl) a m c news hl hnews (by omega) (by omega) (growslice_fits (by omega) hbytes), fun g' h => .inr (by simp [Value.ownBlock] at h; omega), by simp⟩
    obtain ⟨v', w', hr, hb, hne⟩ := two
    obtain ⟨v2, w2, hr2, ho2, hg2, _⟩ := run_append_own (P := P) w base t 0 e i z i.size i.bytes ht hi hz rfl rfl hzs hpos v n xs hown a m 0 news hl hnews h1 h63 hbytes hbase
    have := (hr 0 0).symm.trans hr2
    simp only [Result.ok.injEq] at this
    obtain ⟨rfl, rfl⟩ := this
    exact ⟨v', w', hr, ho2, (Mod.of_grown hg2).mono (fun k _ h => h.symm), hb, fun h => absurd h hne⟩
end
theorem own_len {w : World} {base e size : Nat} {a : Option Addr} {n n' c : Nat} {xs : List Value} (h : w.ownsRow base e size (.slice a n c) n' xs) : n' = n ∧ n ≤ c ∧ c ≤ maxLen := by
  rcases h.2 with ⟨h1, rfl⟩ | ⟨g, cap, cur, h1, _, _, h2, h3, _⟩
  · cases h1; exact ⟨rfl, Nat.le_refl _, by omega⟩
  · cases h1; exact ⟨rfl, h2, h3⟩
theorem own_slice {w : World} {base e size : Nat} {v : Value} {n : Nat} {xs : List Value} (h : w.ownsRow base e size v n xs) : ∃ a c, v = .slice a n c := by
  rcases h.2 with ⟨rfl, rfl⟩ | ⟨g, cap, cur, rfl, _⟩
  · exact ⟨_, _, rfl⟩
  · exact ⟨_, _, rfl⟩

theorem own_elem {w : World} {B e size n g : Nat} {v : Value} {xs : List Value} (h : w.ownsRow B e size v n xs) (hg : v.ownBlock = some g) : ∃ c, w.heap[g]? = some (.cells c e (0, 0)) := by
  rcases h.2 with ⟨rfl, _⟩ | ⟨g', cap, cur, rfl, _, hg', _⟩
  · simp [Value.ownBlock] at hg
  · simp [Value.ownBlock] at hg
    subst hg
    exact ⟨cur, hg'⟩
theorem own_ne_blk {w : World} {B e size n g e' : Nat} {v : Value} {xs l : List Value} (h : w.ownsRow B e size v n xs) (hb : Blk w g e' l) (hne : e ≠ e') : v.ownBlock ≠ some g := by
  intro hg
  obtain ⟨c, hc⟩ := own_elem h hg
  unfold Blk at hb
  rw [hc] at hb
  simp at hb
  exact hne hb.2
theorem own_ne_own {w : World} {B B' e size n e' size' n' : Nat} {v v' : Value} {xs xs' : List Value} (h : w.ownsRow B e size v n xs) (h' : w.ownsRow B' e' size' v' n' xs') (hne : e ≠ e') (g : Nat) (hg : v.ownBlock = some g) : v'.ownBlock ≠ some g := by
  intro hg'
  obtain ⟨c, hc⟩ := own_elem h hg
  obtain ⟨c', hc'⟩ := own_elem h' hg'
  rw [hc] at hc'
  simp at hc'
  exact hne hc'.2
theorem own_one {w : World} {B e size n : Nat} {v : Value} {xs : List Value} (h : w.ownsRow B e size v n xs) : v.oneCell' = true := by
  rcases h.2 with ⟨rfl, _⟩ | ⟨g', cap, cur, rfl, _⟩ <;> rfl
theorem own_lt {w : World} {B e size n g : Nat} {v : Value} {xs : List Value} (h : w.ownsRow B e size v n xs) (hg : v.ownBlock = some g) : g < w.heap.size := by
  obtain ⟨c, hc⟩ := own_elem h hg
  exact lt_of_heap hc

end Go.Proofs.YtjacllnmpenbmaaDoor
