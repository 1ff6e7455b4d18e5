/- PlanPlays: for every input the law returns true, and each argument reads behind the call as it read before: no condition. -/
import Derived.Test.YtelfhcojpigkoaaPlays
import Derived.Test.YtelfhcojpigkoaaOpenAct
namespace Go.Proofs.Ytelfhcojpigkoaa
open Go Go.ChangeShapes Go.WideShapes Go.ChangeAt Go.RowKit

theorem Try.cells41 : Try.prog.cellsOf 41 = 6 := by kernel_rfl
theorem cells_at {w : World} {base : Nat} {a : Addr} {n : Nat} {cs : List Value} (h : w.cells? base a n = some cs) : cs.length = n ∧ ∀ j v, cs[j]? = some v → w.cell? (a.add j) = some v := by
  unfold World.cells? at h
  split at h
  · have hl := mapM_some_length h
    refine ⟨by simpa using hl, fun j v hv => ?_⟩
    have hj : j < n := by have := (List.getElem?_eq_some_iff.1 hv).1; simp at hl; omega
    have := mapM_some_get h j j (by simp [hj])
    rw [this, hv]
  · cases h
theorem open_acts {H : Type} {enc : TypeId × Value → H} {w : World} {base : Nat} {spare : Nat → Bool} {held : Bool} {fuel : Nat} {v : Value} {x : DataW H × List MemPlace}
    (h : DataW.trod enc Try.prog w base spare held fuel 35 [v] = some x) : ∃ a n c, v = .slice a n c ∧ n ≤ c ∧ c ≤ 9223372036854775807 ∧ ActsAt w a n := by
  rcases DataW.trod_slice Try.underlying35 h with ⟨hcs, -⟩ | ⟨a, len, cap, elems, rest, m, -, hcs, -, -, hl, hc, hel, hx, -⟩
  · simp at hcs
    subst hcs
    exact ⟨none, 0, 0, rfl, Nat.le_refl _, by omega, fun k hk => by omega⟩
  · simp at hcs
    subst hcs
    unfold maxLen at hc
    refine ⟨some a, len, cap, rfl, hl, hc, fun k hk => ?_⟩
    have h1 := hx k hk
    rw [List.getElem?_eq_getElem (by omega), Option.bind_eq_some_iff] at h1
    obtain ⟨cs, hcs, ht⟩ := h1
    obtain ⟨d, t, id, ya, yn, yc, by_, on, xs, he, hd, ht', hid, hby, hxl, hxn, -, hr⟩ := open_act ht
    obtain ⟨-, hcell⟩ := cells_at hcs
    rw [Try.cells41] at hcell
    obtain ⟨b, off, spot⟩ := a
    have hspot : spot = none := by
      have h2 := hx 0 (by omega)
      rw [List.getElem?_eq_getElem (by omega), Option.bind_eq_some_iff] at h2
      obtain ⟨cs2, hcs2, -⟩ := h2
      obtain ⟨hl2, hcell2⟩ := cells_at hcs2
      rw [Try.cells41] at hl2
      have h0 := hcell2 0 _ (List.getElem?_eq_getElem (by omega))
      simpa [Addr.add] using World.cell?_spot h0
    subst hspot
    have hall : ∀ j v, cs[j]? = some v → w.cell? ⟨b, off + k * 6 + j, none⟩ = some v := fun j v hv => by
      have := hcell j v hv
      rwa [Addr.add_mid, Addr.add_mid] at this
    rw [he] at hall
    exact ⟨b, off, d, t, id, ya, yn, yc, by_, on, xs, rfl, ⟨hall 0 _ rfl, hall 1 _ rfl, hall 2 _ rfl, hall 3 _ rfl, hall 4 _ rfl, hall 5 _ rfl⟩, hd, ht', hby, hxl, hxn, hr⟩

set_option maxRecDepth 100000 in
theorem plays_lifted (os : Os) (started : os.Started) (H : Type) (enc : TypeId × Value → H) :
    ReturnsInHanded {} Try.checked os 4 .any (Rows.planPlaysSpec.pre6 enc Try.prog Try.f4 Rows.planPlaysRow.domain false) (Rows.planPlaysSpec.post enc Try.prog Try.f4 false true false false) := by
  refine returnsInHanded_of_change (C := Try.checked) Try.own started (by kernel_rfl) Try.func4
    (ChangeSpec.witness6 (enc := enc) (C := Try.checked) false ⟨#[], #[.slice none 0 0, .int .u32 0, .int .u32 0], []⟩ 8 (by kernel_rfl) (by kernel_rfl) (by kernel_rfl) (by kernel_rfl)) ?_
  intro W base args ds gs before hval0 hW _ _
  have hval : ∀ (j : Nat) t v, Try.f4.params[j]? = some t → args[j]? = some v → Value.okWide Try.prog W .any base t v := hval0
  have hW' := hW
  obtain ⟨p, q, hA0, hV, rfl, _, _⟩ := hW
  have hA : DataW.TrodAll enc Try.prog W 0 (fun _ => true) true Try.f4.params.toList args.toList ds p := hA0
  rw [Try.params4] at hA hval
  obtain ⟨v0, vs0, d0, ds0, p0, q0, hargs, rfl, rfl, h0, r0⟩ := trodAll_cons hA
  obtain ⟨v1, vs1, d1, ds1, p1, q1, rfl, rfl, rfl, h1, r1⟩ := trodAll_cons r0
  obtain ⟨v2, vs2, d2, ds2, p2, q2, rfl, rfl, rfl, h2, r2⟩ := trodAll_cons r1
  obtain ⟨rfl, rfl, rfl⟩ := trodAll_nil r2
  obtain rfl : args = #[v0, v1, v2] := by cases args; simp_all
  obtain ⟨rfl, rfl⟩ := trodVars_none hV
  obtain ⟨f, rfl, rfl, rfl, wf⟩ := open_int Try.underlying28 (hval 1 28 v1 rfl rfl) h1
  obtain ⟨t, rfl, rfl, rfl, wt⟩ := open_int Try.underlying28 (hval 2 28 v2 rfl rfl) h2
  obtain ⟨a0, len, cap, rfl⟩ := okWide_slice Try.underlying35 (hval 0 35 v0 rfl rfl)
  have h0k := h0
  obtain ⟨fuel0, hf0⟩ := h0
  clear hA0 hval0
  simp only [List.append_nil] at hW'
  have hlt : ∀ x ∈ p0, x.block < W.heap.size := fun x hx => by simpa using hW'.lt x hx
  obtain ⟨a, n, c, hv, hn, hc, hacts⟩ := open_acts (v := .slice a0 len cap) (by simpa [Value.cells] using hf0)
  cases hv
  have hf : 0 ≤ f ∧ f < 4294967296 := by have := wf; simp [Lit.wf, IntKind.min, IntKind.max, IntKind.signed, IntKind.bits] at this; omega
  have ht : 0 ≤ t ∧ t < 4294967296 := by have := wt; simp [Lit.wf, IntKind.min, IntKind.max, IntKind.signed, IntKind.bits] at this; omega
  refine (plays_walk W a0 len cap f t (by omega) hacts hf ht).mono ?_
  rintro e W' ⟨rfl, hm⟩
  have hb : Below W.heap.size W W' := hm.below (Nat.le_refl _) (fun _ _ h => h)
  have ha0 := Below.trod Try.laidOut (by kernel_rfl) (of_decide_eq_true (by kernel_rfl)) h0k hb hlt
  have h3 := trodAll_cons_mk ha0 (trodAll_cons_mk (shut_int Try.underlying28 wf) (trodAll_cons_mk (shut_int Try.underlying28 wt) trodAll_mk0))
  simp only [List.append_nil] at h3
  exact ⟨_, rfl, _, _, _, [], _, [], hW', trodAll_cons_mk (shut_bool Try.underlying4 _) trodAll_mk0, h3, rfl, hb.frame _, fun h => by cases h⟩

theorem planPlays_holds : Rows.PlanPlaysSaid :=
  OpenClaim.holds_of_wide 4 Try.f4 rfl rfl rfl rfl rfl rfl rfl ⟨rfl, rfl, rfl, rfl, rfl⟩ rfl rfl rfl rfl rfl (by kernel_rfl) Try.func4 (by kernel_rfl)
    (of_decide_eq_true (by kernel_rfl)) (by unfold Func.isWrapper; first | (rw [if_pos (by decide +kernel)]; kernel_rfl) | (rw [if_neg (by decide +kernel)]; exact ⟨rfl, rfl⟩))
    (fun os started H enc _ => plays_lifted os started H enc)
#print axioms planPlays_holds
end Go.Proofs.Ytelfhcojpigkoaa
