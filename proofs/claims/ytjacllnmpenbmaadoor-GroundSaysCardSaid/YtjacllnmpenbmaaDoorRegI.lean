/- A region that draws its order and holds operations that wait for none of each other (the entries of a map's literal): whatever order they come up in. No program. -/
import Derived.Test.YtjacllnmpenbmaaDoorRegG
namespace Go.Proofs.YtjacllnmpenbmaaDoor
open Go

section
variable {P : Program} {ops : Array Oper} {Q : Exit → Act → World → Prop} {md : Region.Mode}
theorem perm_rest : ∀ (D I : List Nat), D.Nodup → (∀ x ∈ D, x ∈ I) → ∃ R, (D ++ R).Perm I
  | [], I, _, _ => ⟨I, List.Perm.refl _⟩
  | x :: D, I, hn, h => by
    rw [List.nodup_cons] at hn
    obtain ⟨R, hR⟩ := perm_rest D (I.erase x) hn.2 (fun y hy => (List.mem_erase_of_ne (by rintro rfl; exact hn.1 hy)).2 (h y (by simp [hy])))
    exact ⟨R, (List.Perm.cons x hR).trans (List.perm_cons_erase (h x (by simp))).symm⟩
def markAll (base : Array Bool) (D : List Nat) : Array Bool := base.mapIdx fun j b => b || D.contains j
theorem markAll_getD (base : Array Bool) (D : List Nat) (j : Nat) (d : Bool) : (markAll base D).getD j d = if j < base.size then (base.getD j d || D.contains j) else d := by
  unfold markAll
  by_cases h : j < base.size <;> simp [h]
theorem markAll_nil (base : Array Bool) : markAll base [] = base := by
  apply Array.ext
  · simp [markAll]
  · intro i h1 h2; simp [markAll]
theorem markAll_set (base : Array Bool) (D : List Nat) (i : Nat) (hi : i < base.size) : (markAll base D).setIfInBounds i true = markAll base (D ++ [i]) := by
  apply Array.ext
  · simp [markAll]
  · intro j h1 h2
    simp [markAll] at h1
    by_cases h : i = j
    · subst h; simp [markAll]
    · have : ¬ j = i := fun e => h e.symm
      rw [Array.getElem_setIfInBounds_ne (xs := markAll base D) (by simpa [markAll] using h1) h]
      simp [markAll, this]
theorem markAll_perm (base : Array Bool) {D I : List Nat} (h : D.Perm I) : markAll base D = markAll base I := by
  apply Array.ext
  · simp [markAll]
  · intro j h1 h2
    simp only [markAll, Array.getElem_mapIdx]
    congr 1
    rw [Bool.eq_iff_iff]
    simp [h.mem_iff]
/-- Each of I is not listed, waits for listed ones alone; whoever else is not listed waits for each of I. -/
def freeAll (md : Region.Mode) (ops : Array Oper) (base : Array Bool) (I : List Nat) : Bool :=
  decide (base.size = ops.size) && (decide I.Nodup && ((I.all fun i => decide (i < base.size) && (base.getD i true == false && (match ops[i]? with
    | none => false
    | some o => o.after.all fun e => !Region.binds md e || base.getD e.on false))) &&
  ((List.range ops.size).all fun k => base.getD k true || (I.contains k || (match ops[k]? with
    | none => true
    | some o => I.all fun i => o.after.any fun e => Region.binds md e && e.on == i)))))
theorem inserts_any (base : Array Bool) (I : List Nat) (a : Act) (J : List Nat → World → Prop) (hI : freeAll md ops base I = true) (fuel : Nat)
    (hstep : ∀ (D : List Nat) (i : Nat) (w : World), i ∈ I → i ∉ D → (∀ x ∈ D, x ∈ I) → D.Nodup → J D w → wpOp P ops Q i (fun a' w' => a' = a ∧ J (D ++ [i]) w') a w)
    (hdone : ∀ (D : List Nat) (w : World), D.Perm I → J D w → wpAny P md ops Q fuel (markAll base I) a w) : ∀ w, J [] w → wpAny P md ops Q (I.length + fuel) base a w := by
  unfold freeAll at hI
  simp only [Bool.and_eq_true, decide_eq_true_eq, List.all_eq_true, beq_iff_eq, List.mem_range, Bool.or_eq_true] at hI
  obtain ⟨hsz, hnd, hin, hout⟩ := hI
  have main : ∀ (n : Nat) (D : List Nat) (w : World), (∀ x ∈ D, x ∈ I) → D.Nodup → D.length + n = I.length → J D w → wpAny P md ops Q (n + fuel) (markAll base D) a w := by
    intro n
    induction n with
    | zero =>
      intro D w hD hDn hl hJ
      have hp : D.Perm I := by
        obtain ⟨R, hR⟩ := perm_rest D I hDn hD
        have hl2 := hR.length_eq
        simp at hl2
        have : R = [] := List.eq_nil_of_length_eq_zero (by omega)
        rw [this, List.append_nil] at hR
        exact hR
      rw [markAll_perm base hp, Nat.zero_add]
      exact hdone D w hp hJ
    | succ n ih =>
      intro D w hD hDn hl hJ
      obtain ⟨i0, hi0, hi0D⟩ : ∃ i, i ∈ I ∧ i ∉ D := by
        apply Classical.byContradiction
        intro hc
        have hsub : ∀ x ∈ I, x ∈ D := fun x hx => Classical.byContradiction fun hx' => hc ⟨x, hx, hx'⟩
        obtain ⟨R, hR⟩ := perm_rest I D hnd hsub
        have hl2 := hR.length_eq
        simp at hl2
        omega
      have hready : ∀ j, j ∈ Region.ready md ops (markAll base D) ↔ j ∈ I ∧ j ∉ D := by
        intro j
        rw [mem_ready]
        constructor
        · rintro ⟨h0, o, ho, hall⟩
          have hjs : j < ops.size := (Array.getElem?_eq_some_iff.1 ho).1
          rw [markAll_getD, if_pos (by omega)] at h0
          simp only [Bool.or_eq_false_iff] at h0
          refine ⟨?_, by simpa using h0.2⟩
          rcases hout j hjs with h | h | h
          · rw [h0.1] at h; cases h
          · simpa using h
          · exfalso
            rw [ho] at h
            simp only [List.all_eq_true, Array.any_eq_true'] at h
            obtain ⟨e, he, hb⟩ := h i0 hi0
            simp only [Bool.and_eq_true, beq_iff_eq] at hb
            have h1 := hall e he hb.1
            rw [hb.2, markAll_getD, if_pos (hin i0 hi0).1] at h1
            have h2 := (hin i0 hi0).2.1
            have h3 : base.getD i0 false = false := by
              have := (hin i0 hi0).1
              simp [this] at h2 ⊢
              exact h2
            rw [h3] at h1
            simp at h1
            exact hi0D h1
        · rintro ⟨hjI, hjD⟩
          obtain ⟨h1, h2, h3⟩ := hin j hjI
          refine ⟨by rw [markAll_getD, if_pos h1, h2]; simpa using hjD, ?_⟩
          split at h3
          · cases h3
          · rename_i o ho
            refine ⟨o, ho, fun e he hb => ?_⟩
            rw [Array.all_eq_true_iff_forall_mem] at h3
            have h4 := h3 e he
            rw [hb] at h4
            simp only [Bool.not_true, Bool.false_or] at h4
            have h5 : e.on < base.size := by
              apply Classical.byContradiction
              intro hc
              simp [Array.getElem?_eq_none (Nat.le_of_not_lt hc)] at h4
            rw [markAll_getD, if_pos h5, h4]
            rfl
      rw [Nat.add_right_comm]
      refine ⟨fun h => ?_, fun j hj => ?_⟩
      · have := (hready i0).2 ⟨hi0, hi0D⟩
        rw [h] at this
        cases this
      · obtain ⟨hjI, hjD⟩ := (hready j).1 hj
        refine wpOp_mono (fun a' w' h => ?_) (hstep D j w hjI hjD hD hDn hJ)
        obtain ⟨rfl, hJ'⟩ := h
        rw [markAll_set base D j (hin j hjI).1]
        exact ih (D ++ [j]) w' (fun x hx => by
          rcases List.mem_append.1 hx with h | h
          · exact hD x h
          · rw [List.mem_singleton] at h; rw [h]; exact hjI) (by
          rw [List.nodup_append]
          exact ⟨hDn, by simp, fun x hx y hy e => by rw [List.mem_singleton] at hy; subst hy; subst e; exact hjD hx⟩) (by simp; omega) hJ'
  intro w hJ
  have := main I.length [] w (by simp) (by simp) (by simp) hJ
  rwa [markAll_nil] at this
/-- One alone may come up. -/
theorem wpAny_one {k : Nat} {o : Oper} {fuel : Nat} {listed : Array Bool} {a : Act} {w : World} (hr : Region.ready md ops listed = [k]) (ho : ops[k]? = some o)
    (h : ∀ K : Act → World → Prop, (∀ a' w', wpAny P md ops Q fuel (listed.setIfInBounds k true) a' w' → K a' w') → if Region.wanted o (yielded ops a.tmps) = true then Oper.wp P o a w K Q else K (a.put o.dst undef) w) :
    wpAny P md ops Q (fuel + 1) listed a w := by
  refine ⟨fun h0 => (by rw [h0] at hr; cases hr), fun i hi => ?_⟩
  rw [hr, List.mem_singleton] at hi
  subst hi
  unfold wpOp
  rw [ho]
  have h1 := h _ (fun a' w' h => h)
  simp only []
  split
  · rename_i hw; rw [if_pos hw] at h1; exact .inl h1
  · rename_i hw; rw [if_neg hw] at h1; exact h1
end
end Go.Proofs.YtjacllnmpenbmaaDoor
