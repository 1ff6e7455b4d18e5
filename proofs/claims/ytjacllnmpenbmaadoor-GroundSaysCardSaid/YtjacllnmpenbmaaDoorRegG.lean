/- A region that draws its order, walked by hand: as the library's held walk, but the condition on the world may end where an operation has come up, and an operation that is not wanted may be taken first. No program. -/
import Derived.Deep.RegionHeld3
import Derived.Deep.RegionLaw
namespace Go.Proofs.YtjacllnmpenbmaaDoor
open Go

section
variable {P : Program} {ops : Array Oper} {Q : Exit → Act → World → Prop} {md : Region.Mode} {S : Array Bool → World → Prop}

/-- Whatever order is picked from here on; S, which may look at what has come up, holds behind each operation. -/
def wpAnyG (P : Program) (md : Region.Mode) (ops : Array Oper) (Q : Exit → Act → World → Prop) (S : Array Bool → World → Prop) : Nat → Array Bool → Act → World → Prop
  | 0, listed, a, w => Region.ready md ops listed = [] ∧ Q .normal a w
  | fuel + 1, listed, a, w => (Region.ready md ops listed = [] → Q .normal a w) ∧
    ∀ i ∈ Region.ready md ops listed, wpOp P ops Q i (fun a' w' => S (listed.setIfInBounds i true) w' ∧ wpAnyG P md ops Q S fuel (listed.setIfInBounds i true) a' w') a w
theorem wpAny_of_G : ∀ (fuel : Nat) (listed : Array Bool) (a : Act) (w : World), wpAnyG P md ops Q S fuel listed a w → wpAny P md ops Q fuel listed a w
  | 0, _, _, _, h => h
  | fuel + 1, _, _, _, h => ⟨h.1, fun i hi => wpOp_mono (fun a' w' h' => wpAny_of_G fuel _ a' w' h'.2) (h.2 i hi)⟩
theorem wp_region_G (S : Array Bool → World → Prop) {id : Nat} {a : Act} {w : World} (hm : P.follows .mixedOrders = true) (h : wpAnyG P .any ops Q S ops.size (Array.replicate ops.size false) a w.drew) : (Code.region id ops true).wp P Q a w :=
  wp_region_any hm (wpAny_of_G _ _ _ _ h)

/-- Nobody who waits for i has come up. -/
def Awaits (md : Region.Mode) (ops : Array Oper) (i : Nat) (listed : Array Bool) : Prop := ∀ (k : Nat) (o : Oper) (e : _), ops[k]? = some o → e ∈ o.after → Region.binds md e = true → e.on = i → listed.getD k true = false
theorem Awaits.step {i j : Nat} {listed : Array Bool} (h : Awaits md ops i listed) (hj : j ∈ Region.ready md ops listed) (hi : listed.getD i true = false) : Awaits md ops i (listed.setIfInBounds j true) := by
  intro k o e hk he hb hon
  by_cases hjk : j = k
  · subst hjk
    obtain ⟨-, o', ho', hall⟩ := mem_ready.1 hj
    rw [hk] at ho'
    cases ho'
    have h1 := hall e he hb
    rw [hon] at h1
    rcases Nat.lt_or_ge i listed.size with h' | h'
    · simp [h'] at hi h1; rw [hi] at h1; cases h1
    · simp [Array.getElem?_eq_none h'] at h1
  · rw [getD_set_ne true hjk]
    exact h k o e hk he hb hon

theorem wpAnyG_first {i : Nat} {oi : Oper} {v : Value} (S0 : World → Prop) (hi : ops[i]? = some oi) (hsel : ∀ (j : Nat) (o : Oper) cs b, ops[j]? = some o → o.op ≠ .select cs b)
    (hQ : ∀ c a w, Q (.panic c) (a.put oi.dst v) w → Q (.panic c) a w) (hind : ∀ l w, S (l.setIfInBounds i true) w ↔ S l w) (hS0 : ∀ l w, l.getD i true = false → Awaits md ops i l → S l w → S0 w) :
    ∀ (fuel : Nat) (listed : Array Bool) (a : Act) (w : World),
      (∀ j oj, ops[j]? = some oj → j ≠ i → listed.getD j true = false → (∀ e ∈ oj.after, Region.binds md e = true → e.on ≠ i) → oi.apart ops oj = true) →
      i ∈ Region.ready md ops listed → Awaits md ops i listed → YieldsIf P ops S0 oi v a → S listed w →
      wpAnyG P md ops Q S fuel (listed.setIfInBounds i true) (a.put oi.dst v) w → wpAnyG P md ops Q S (fuel + 1) listed a w := by
  intro fuel
  induction fuel with
  | zero =>
    intro listed a w _ hr haw hy hS H
    have hun := (mem_ready.1 hr).1
    refine ⟨fun h => (by rw [h] at hr; cases hr), fun j hj => ?_⟩
    by_cases hji : j = i
    · subst hji; exact hy.wpOp hi (hS0 _ _ hun haw hS) ⟨(hind _ _).2 hS, H⟩
    · have := ready_mono hj hji
      rw [H.1] at this
      cases this
  | succ fuel ih =>
    intro listed a w hfree hr haw hy hS H
    have hun := (mem_ready.1 hr).1
    refine ⟨fun h => (by rw [h] at hr; cases hr), fun j hj => ?_⟩
    by_cases hji : j = i
    · subst hji; exact hy.wpOp hi (hS0 _ _ hun haw hS) ⟨(hind _ _).2 hS, H⟩
    · have h1 := H.2 j (ready_mono hj hji)
      obtain ⟨hjun, oj, hoj, hall⟩ := mem_ready.1 hj
      have hnot : ∀ e ∈ oj.after, Region.binds md e = true → e.on ≠ i := fun e he hb heq => by
        have h1 := haw j oj e hoj he hb heq
        have h2 := hall e he hb
        rw [heq] at h2
        rcases Nat.lt_or_ge i listed.size with h' | h'
        · simp [h'] at hun h2; rw [hun] at h2; cases h2
        · simp [Array.getElem?_eq_none h'] at h2
      have h2 := wpOp_putIf hoj (hfree j oj hoj hji hjun hnot) (fun cs b => hsel i oi cs b hi) (fun cs b => hsel j oj cs b hoj) hQ hy h1
      have hfree' : ∀ k ok, ops[k]? = some ok → k ≠ i → (listed.setIfInBounds j true).getD k true = false → (∀ e ∈ ok.after, Region.binds md e = true → e.on ≠ i) → oi.apart ops ok = true := fun k ok hk hki hun' hno => by
        refine hfree k ok hk hki ?_ hno
        by_cases hjk : j = k
        · subst hjk; exact hjun
        · rw [getD_set_ne true hjk] at hun'; exact hun'
      refine wpOp_mono (fun a' w' h3 => ?_) h2
      have hcomm : (listed.setIfInBounds i true).setIfInBounds j true = (listed.setIfInBounds j true).setIfInBounds i true := Array.setIfInBounds_comm _ _ (Ne.symm hji)
      rw [hcomm] at h3
      have hSj : S (listed.setIfInBounds j true) w' := (hind _ _).1 h3.2.1
      exact ⟨hSj, ih (listed.setIfInBounds j true) a' w' hfree' (ready_mono hr (Ne.symm hji)) (haw.step hj hun) h3.1 hSj h3.2.2⟩

/-- The same for 'decide': take number i first. -/
def Awaits.b (md : Region.Mode) (ops : Array Oper) (i : Nat) (listed : Array Bool) : Bool :=
  (List.range ops.size).all fun k => match ops[k]? with
    | none => true
    | some o => o.after.all fun e => !(Region.binds md e && e.on == i) || !listed.getD k true
theorem Awaits.of_b {i : Nat} {listed : Array Bool} (h : Awaits.b md ops i listed = true) : Awaits md ops i listed := by
  intro k o e hk he hb hon
  unfold Awaits.b at h
  rw [List.all_eq_true] at h
  have h1 := h k (List.mem_range.2 (Array.getElem?_eq_some_iff.1 hk).1)
  simp only [hk] at h1
  rw [Array.all_eq_true_iff_forall_mem] at h1
  have h2 := h1 e he
  simp only [hb, hon, beq_self_eq_true, Bool.and_self, Bool.not_true, Bool.false_or, Bool.not_eq_true'] at h2
  exact h2
theorem wpAnyG_take {i : Nat} {oi : Oper} {v : Value} {fuel : Nat} {listed : Array Bool} {a : Act} {w : World} (S0 : World → Prop) (hi : ops[i]? = some oi) (hs : Region.noSelect ops = true) (hf : Region.free md ops listed i = true)
    (hr : (Region.ready md ops listed).contains i = true) (hA : Awaits.b md ops i listed = true) (hQ : ∀ c a w, Q (.panic c) (a.put oi.dst v) w → Q (.panic c) a w) (hind : ∀ l w, S (l.setIfInBounds i true) w ↔ S l w)
    (hS0 : ∀ l w, l.getD i true = false → Awaits md ops i l → S l w → S0 w) (hy : YieldsIf P ops S0 oi v a) (hS : S listed w)
    (h : wpAnyG P md ops Q S fuel (listed.setIfInBounds i true) (a.put oi.dst v) w) : wpAnyG P md ops Q S (fuel + 1) listed a w :=
  wpAnyG_first S0 hi (Region.noSelect_spec hs) hQ hind hS0 fuel listed a w (Region.free_spec hi hf) (by simpa using hr) (Awaits.of_b hA) hy hS h
/-- Does k wait for i? -/
def waitsB (md : Region.Mode) (ops : Array Oper) (i k : Nat) : Bool := match ops[k]? with
  | none => false
  | some o => o.after.any fun e => Region.binds md e && e.on == i
theorem Awaits.at_ {i k : Nat} {listed : Array Bool} (h : Awaits md ops i listed) (hw : waitsB md ops i k = true) : listed.getD k true = false := by
  unfold waitsB at hw
  split at hw
  · cases hw
  · rename_i o ho
    obtain ⟨e, he, hb⟩ := Array.any_eq_true'.1 hw
    simp at hb
    exact h k o e ho he hb.1 hb.2
/-- A take, S handed on. -/
theorem wpAnyG_take' {i : Nat} {oi : Oper} {v : Value} {fuel : Nat} {listed : Array Bool} {a : Act} {w : World} (S0 : World → Prop) (hi : ops[i]? = some oi) (hs : Region.noSelect ops = true) (hf : Region.free md ops listed i = true)
    (hr : (Region.ready md ops listed).contains i = true) (hA : Awaits.b md ops i listed = true) (hQ : ∀ c a w, Q (.panic c) (a.put oi.dst v) w → Q (.panic c) a w) (hind : ∀ l w, S (l.setIfInBounds i true) w ↔ S l w)
    (hS0 : ∀ l w, l.getD i true = false → Awaits md ops i l → S l w → S0 w) (hy : YieldsIf P ops S0 oi v a) (hS : S listed w)
    (h : S (listed.setIfInBounds i true) w → wpAnyG P md ops Q S fuel (listed.setIfInBounds i true) (a.put oi.dst v) w) : wpAnyG P md ops Q S (fuel + 1) listed a w :=
  wpAnyG_take S0 hi hs hf hr hA hQ hind hS0 hy hS (h ((hind _ _).2 hS))
theorem wpAnyG_done {listed : Array Bool} {a : Act} {w : World} (hr : Region.ready md ops listed = []) (h : Q .normal a w) : ∀ fuel, wpAnyG P md ops Q S fuel listed a w
  | 0 => ⟨hr, h⟩
  | _ + 1 => ⟨fun _ => h, by rw [hr]; simp⟩
/-- One alone may come up. -/
theorem wpAnyG_one {k : Nat} {o : Oper} {fuel : Nat} {listed : Array Bool} {a : Act} {w : World} (hr : Region.ready md ops listed = [k]) (ho : ops[k]? = some o)
    (h : ∀ K : Act → World → Prop, (∀ a' w', S (listed.setIfInBounds k true) w' → (S (listed.setIfInBounds k true) w' → wpAnyG P md ops Q S fuel (listed.setIfInBounds k true) a' w') → K a' w') → if Region.wanted o (yielded ops a.tmps) = true then Oper.wp P o a w K Q else K (a.put o.dst undef) w) :
    wpAnyG P md ops Q S (fuel + 1) listed a w := by
  refine ⟨fun h0 => (by rw [h0] at hr; cases hr), fun i hi => ?_⟩
  rw [hr, List.mem_singleton] at hi
  subst hi
  unfold wpOp
  rw [ho]
  have h1 := h (fun a' w' => S (listed.setIfInBounds i true) w' ∧ wpAnyG P md ops Q S fuel (listed.setIfInBounds i true) a' w') (fun a' w' h1 h2 => ⟨h1, h2 h1⟩)
  simp only []
  split
  · rename_i hw; rw [if_pos hw] at h1; exact .inl h1
  · rename_i hw; rw [if_neg hw] at h1; exact h1
/-- One of two may come up. -/
theorem wpAnyG_two {k k' : Nat} {o o' : Oper} {fuel : Nat} {listed : Array Bool} {a : Act} {w : World} (hr : Region.ready md ops listed = [k, k']) (ho : ops[k]? = some o) (ho' : ops[k']? = some o')
    (h : ∀ K : Act → World → Prop, (∀ a' w', S (listed.setIfInBounds k true) w' → (S (listed.setIfInBounds k true) w' → wpAnyG P md ops Q S fuel (listed.setIfInBounds k true) a' w') → K a' w') → if Region.wanted o (yielded ops a.tmps) = true then Oper.wp P o a w K Q else K (a.put o.dst undef) w)
    (h' : ∀ K : Act → World → Prop, (∀ a' w', S (listed.setIfInBounds k' true) w' → (S (listed.setIfInBounds k' true) w' → wpAnyG P md ops Q S fuel (listed.setIfInBounds k' true) a' w') → K a' w') → if Region.wanted o' (yielded ops a.tmps) = true then Oper.wp P o' a w K Q else K (a.put o'.dst undef) w) :
    wpAnyG P md ops Q S (fuel + 1) listed a w := by
  refine ⟨fun h0 => (by rw [h0] at hr; cases hr), fun i hi => ?_⟩
  rw [hr] at hi
  rcases List.mem_cons.1 hi with rfl | hi
  · unfold wpOp
    rw [ho]
    have h1 := h (fun a' w' => S (listed.setIfInBounds i true) w' ∧ wpAnyG P md ops Q S fuel (listed.setIfInBounds i true) a' w') (fun a' w' h1 h2 => ⟨h1, h2 h1⟩)
    simp only []
    split
    · rename_i hw; rw [if_pos hw] at h1; exact .inl h1
    · rename_i hw; rw [if_neg hw] at h1; exact h1
  · rw [List.mem_singleton] at hi
    subst hi
    unfold wpOp
    rw [ho']
    have h1 := h' (fun a' w' => S (listed.setIfInBounds i true) w' ∧ wpAnyG P md ops Q S fuel (listed.setIfInBounds i true) a' w') (fun a' w' h1 h2 => ⟨h1, h2 h1⟩)
    simp only []
    split
    · rename_i hw; rw [if_pos hw] at h1; exact .inl h1
    · rename_i hw; rw [if_neg hw] at h1; exact h1
end
end Go.Proofs.YtjacllnmpenbmaaDoor
