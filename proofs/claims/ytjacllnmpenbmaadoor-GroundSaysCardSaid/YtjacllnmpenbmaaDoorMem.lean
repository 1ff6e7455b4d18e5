/- Plain lemmas about the memory of the model: blocks known whole, what a piece of code may have changed ('Mod'), own slices. No program. -/
import Derived.WalkKit
import Derived.WalkSpells
import Derived.Lib.Hide
import Derived.BigQuiet
import Derived.Deep.QuietTactic
namespace Go.Proofs.YtjacllnmpenbmaaDoor
open Go Go.RowKit

theorem cell_of {w : World} {b : Nat} {c : Array Value} {e : TypeId} {fz : Nat × Nat} (h : w.heap[b]? = some (.cells c e fz)) (k : Nat) : w.cell? ⟨b, k, none⟩ = c[k]? := by
  simp [World.cell?, h]
theorem frozen_of {w : World} {b : Nat} {c : Array Value} {e : TypeId} (h : w.heap[b]? = some (.cells c e (0, 0))) (k : Nat) : w.frozen? ⟨b, k, none⟩ = false := by
  simp [World.frozen?, h]
theorem lt_of_heap {w : World} {b : Nat} {o : Obj} (h : w.heap[b]? = some o) : b < w.heap.size := (Array.getElem?_eq_some_iff.1 h).1

/-- What lay in memory and is not in S lies as it lay. -/
structure Mod (S : Nat → Prop) (w w' : World) : Prop where
  os : w'.os = w.os
  tape : w'.tape = w.tape
  output : w'.output = w.output
  size : w.heap.size ≤ w'.heap.size
  block : ∀ k, k < w.heap.size → ¬ S k → w'.heap[k]? = w.heap[k]?

def NoB : Nat → Prop := fun _ => False

theorem Mod.refl (S : Nat → Prop) (w : World) : Mod S w w := ⟨rfl, rfl, rfl, Nat.le_refl _, fun _ _ _ => rfl⟩
theorem Mod.mono {S T : Nat → Prop} {w w' : World} (h : Mod S w w') (hs : ∀ k, k < w.heap.size → S k → T k) : Mod T w w' :=
  ⟨h.os, h.tape, h.output, h.size, fun k hk hn => h.block k hk (fun s => hn (hs k hk s))⟩
theorem Mod.trans {S : Nat → Prop} {w w1 w2 : World} (h : Mod S w w1) (h2 : Mod S w1 w2) : Mod S w w2 :=
  ⟨h2.os.trans h.os, h2.tape.trans h.tape, h2.output.trans h.output, Nat.le_trans h.size h2.size,
   fun k hk hn => (h2.block k (Nat.lt_of_lt_of_le hk h.size) hn).trans (h.block k hk hn)⟩
/-- .. where the second piece's blocks are the first's, or were made since. -/
theorem Mod.trans' {S T : Nat → Prop} {w w1 w2 : World} (h : Mod S w w1) (h2 : Mod T w1 w2) (ht : ∀ k, k < w.heap.size → T k → S k) : Mod S w w2 :=
  ⟨h2.os.trans h.os, h2.tape.trans h.tape, h2.output.trans h.output, Nat.le_trans h.size h2.size,
   fun k hk hn => (h2.block k (Nat.lt_of_lt_of_le hk h.size) (fun t => hn (ht k hk t))).trans (h.block k hk hn)⟩
theorem Mod.drew {S : Nat → Prop} {w w1 : World} (h : Mod S w w1) : Mod S w w1.drew := ⟨h.os, h.tape, h.output, h.size, h.block⟩
theorem Mod.drewN {S : Nat → Prop} {w w1 : World} (h : Mod S w w1) (n : Nat) : Mod S w (w1.drewN n) := ⟨h.os, h.tape, h.output, h.size, h.block⟩
theorem Mod.alloc {S : Nat → Prop} {w w1 : World} (h : Mod S w w1) (o : Obj) : Mod S w (w1.alloc o) :=
  ⟨h.os, h.tape, h.output, by have := h.size; simp; omega, fun k hk hn => (Below.heap_alloc w1 o k (Nat.lt_of_lt_of_le hk h.size)).trans (h.block k hk hn)⟩
theorem Mod.setCell {S : Nat → Prop} {w w1 : World} (h : Mod S w w1) {a : Addr} (u : Value) (ha : a.block < w.heap.size → S a.block) : Mod S w (w1.setCell a u) :=
  ⟨h.os, h.tape, h.output, by have := h.size; simpa using this, fun k hk hn =>
    (Below.heap_setCell w1 a u k (fun e => hn (e ▸ ha (e ▸ hk)))).trans (h.block k hk hn)⟩
theorem Mod.of_grown {row : Option Nat} {w w' : World} (h : w.grownBy w' row) : Mod (fun k => some k = row) w w' := ⟨h.os, h.tape, h.output, h.size, h.block⟩
theorem Mod.of_below {w w' : World} (h : Below w.heap.size w w') : Mod NoB w w' := ⟨h.os, h.tape, h.output, h.size, fun k hk _ => h.block k hk⟩
theorem Mod.below {S : Nat → Prop} {w w' : World} (h : Mod S w w') {B : Nat} (hB : B ≤ w.heap.size) (hs : ∀ k, k < B → ¬ S k) : Below B w w' :=
  ⟨h.os, h.tape, h.output, h.size, fun k hk => h.block k (Nat.lt_of_lt_of_le hk hB) (hs k hk)⟩
theorem Mod.of_belowB {B : Nat} {w w' : World} (h : Below B w w') : Mod (fun k => B ≤ k) w w' := ⟨h.os, h.tape, h.output, h.size, fun k _ hn => h.block k (by omega)⟩
theorem Mod.grown {S : Nat → Prop} {w w1 w2 : World} (h : Mod S w w1) {row : Option Nat} (hg : w1.grownBy w2 row) (hr : ∀ k, k < w.heap.size → row = some k → S k) : Mod S w w2 :=
  h.trans' (Mod.of_grown hg) (fun k hk e => hr k hk e.symm)
theorem Mod.heap {S : Nat → Prop} {w w' : World} (h : Mod S w w') {b : Nat} {o : Obj} (hb : w.heap[b]? = some o) (hn : ¬ S b) : w'.heap[b]? = some o :=
  (h.block b (lt_of_heap hb) hn).trans hb
theorem Mod.cell {S : Nat → Prop} {w w' : World} (h : Mod S w w') {a : Addr} {v : Value} (hc : w.cell? a = some v) (hn : ¬ S a.block) : w'.cell? a = some v :=
  (World.cell?_of_block (h.block a.block (World.block_lt_of_cell? w a hc) hn)).trans hc
theorem Mod.own {S : Nat → Prop} {w w' : World} (h : Mod S w w') {base : Nat} {e : TypeId} {size : Nat} {v : Value} {n : Nat} {xs : List Value}
    (ho : w.ownsRow base e size v n xs) (hn : ∀ k, v.ownBlock = some k → ¬ S k) : w'.ownsRow base e size v n xs := by
  refine ⟨ho.1, ?_⟩
  rcases ho.2 with hn' | ⟨g, cap, cur, rfl, hb, hg, rest⟩
  · exact .inl hn'
  · exact .inr ⟨g, cap, cur, rfl, hb, h.heap hg (hn g rfl), rest⟩
end Go.Proofs.YtjacllnmpenbmaaDoor
