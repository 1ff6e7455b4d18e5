/- PlanOwns: for every input the law returns true, and each argument reads behind the call as it read before: no condition. -/
import Derived.Test.YtelfhcojpigkoaaOwns
import Derived.Test.YtelfhcojpigkoaaOpen
namespace Go.Proofs.Ytelfhcojpigkoaa
open Go Go.ChangeShapes Go.WideShapes Go.ChangeAt Go.RowKit

theorem Try.one41 : Try.prog.cellsOf 41 = 6 := by kernel_rfl

/-- An act, field by field. -/
theorem open_act {H : Type} {enc : TypeId × Value → H} {w : World} {base : Nat} {spare : Nat → Bool} {held : Bool} {fuel : Nat} {cs : List Value} {x : DataW H × List MemPlace}
    (h : DataW.trod enc Try.prog w base spare held fuel 41 cs = some x) :
    ∃ (d t id : Int) (a : Option Addr) (n c : Nat) (by_ : Int) (on : Bool) (xs : List Int), cs = [.int .u8 d, .int .u32 t, .int .u16 id, .slice a n c, .int .i32 by_, .bool on] ∧ (0 ≤ d ∧ d ≤ 255) ∧ (0 ≤ t ∧ t < 4294967296) ∧ (0 ≤ id ∧ id < 65536) ∧
      (-2147483648 ≤ by_ ∧ by_ < 2147483648) ∧ xs.length = n ∧ n ≤ 9223372036854775807 ∧ (∀ z ∈ xs, 0 ≤ z ∧ z ≤ 255) ∧ Rd w a (bv xs) := by
  obtain ⟨hl, hf⟩ := open_fields Try.underlying41 (by kernel_rfl) Try.one41 h
  obtain ⟨v0, n0, y0, e0, t0⟩ := hf 0 _ rfl
  obtain ⟨v1, n1, y1, e1, t1⟩ := hf 1 _ rfl
  obtain ⟨v2, n2, y2, e2, t2⟩ := hf 2 _ rfl
  obtain ⟨v3, n3, y3, e3, t3⟩ := hf 3 _ rfl
  obtain ⟨v4, n4, y4, e4, t4⟩ := hf 4 _ rfl
  obtain ⟨v5, n5, y5, e5, t5⟩ := hf 5 _ rfl
  obtain ⟨d, h0, -, w0⟩ := DataW.trod_int Try.underlying5 t0
  obtain ⟨t, h1, -, w1⟩ := DataW.trod_int Try.underlying28 t1
  obtain ⟨id, h2, -, w2⟩ := DataW.trod_int Try.underlying29 t2
  obtain ⟨a, n, c, xs, h3, hx1, hx2, hx3, hx4, hx5⟩ := open_u8s Try.underlying22 Try.underlying5 Try.cellsU8 t3
  obtain ⟨by_, h4, -, w4⟩ := DataW.trod_int Try.underlying21 t4
  obtain ⟨on, h5, -⟩ := DataW.trod_bool Try.underlying4 t5
  simp only [List.cons.injEq, and_true] at h0 h1 h2 h4 h5
  subst h0 h1 h2 h3 h4 h5
  refine ⟨d, t, id, a, n, c, by_, on, xs, ?_, u8_wf w0, ?_, ?_, ?_, hx1, by omega, hx4, hx5⟩
  · match cs, hl with
    | [c0, c1, c2, c3, c4, c5], _ =>
      simp at e0 e1 e2 e3 e4 e5
      subst e0 e1 e2 e3 e4 e5
      rfl
  · have := w1; simp [Lit.wf, IntKind.min, IntKind.max, IntKind.signed, IntKind.bits] at this; omega
  · have := w2; simp [Lit.wf, IntKind.min, IntKind.max, IntKind.signed, IntKind.bits] at this; omega
  · have := w4; simp [Lit.wf, IntKind.min, IntKind.max, IntKind.signed, IntKind.bits] at this; omega

set_option maxRecDepth 100000 in
theorem owns_lifted (os : Os) (started : os.Started) (H : Type) (enc : TypeId × Value → H) :
    ReturnsInHanded {} Try.checked os 5 .any (Rows.planOwnsSpec.pre6 enc Try.prog Try.f5 Rows.planOwnsRow.domain false) (Rows.planOwnsSpec.post enc Try.prog Try.f5 false true false false) := by
  refine returnsInHanded_of_change (C := Try.checked) Try.own started (by kernel_rfl) Try.func5
    (ChangeSpec.witness6 (enc := enc) (C := Try.checked) false ⟨#[], #[.slice none 0 0, .agg #[.int .u8 0, .int .u32 0, .int .u16 0, .slice none 0 0, .int .i32 0, .bool false]], []⟩ 8 (by kernel_rfl) (by kernel_rfl) (by kernel_rfl) (by kernel_rfl)) ?_
  intro W base args ds gs before hval0 hW _ _
  have hval : ∀ (j : Nat) t v, Try.f5.params[j]? = some t → args[j]? = some v → Value.okWide Try.prog W .any base t v := hval0
  have hW' := hW
  obtain ⟨p, q, hA0, hV, rfl, _, _⟩ := hW
  have hA : DataW.TrodAll enc Try.prog W 0 (fun _ => true) true Try.f5.params.toList args.toList ds p := hA0
  rw [Try.params5] at hA hval
  obtain ⟨v0, vs0, d0, ds0, p0, q0, hargs, rfl, rfl, h0, r0⟩ := trodAll_cons hA
  obtain ⟨v1, vs1, d1, ds1, p1, q1, rfl, rfl, rfl, h1, r1⟩ := trodAll_cons r0
  obtain ⟨rfl, rfl, rfl⟩ := trodAll_nil r1
  obtain rfl : args = #[v0, v1] := by cases args; simp_all
  obtain ⟨rfl, rfl⟩ := trodVars_none hV
  obtain ⟨a0, len, cap, rfl⟩ := okWide_slice Try.underlying22 (hval 0 22 v0 rfl rfl)
  obtain ⟨cs, rfl, hsz⟩ := okWide_struct Try.underlying41 (hval 1 41 v1 rfl rfl)
  have h0k := h0
  have h1k := h1
  obtain ⟨fuel0, hf0⟩ := h0
  obtain ⟨fuel1, hf1⟩ := h1
  clear hA0 hval0
  have hlt : ∀ x ∈ p0 ++ (p1 ++ []), x.block < W.heap.size := fun x hx => by simpa using hW'.lt x (by simpa using hx)
  obtain ⟨a, n, c, zs, hv, hz, hlc, hc, -, hr⟩ := open_u8s Try.underlying22 Try.underlying5 Try.cellsU8 (v := .slice a0 len cap) (by simpa [Value.cells] using hf0)
  cases hv
  obtain ⟨d, t, id, x, xn, xc, by_, on, xs, hcs, hd, -, -, -, hxs, hxn, -, hxr⟩ := open_act (cs := cs.toList) (by simpa [Value.cells] using hf1)
  obtain rfl : cs = #[.int .u8 d, .int .u32 t, .int .u16 id, .slice x xn xc, .int .i32 by_, .bool on] := by
    apply Array.toList_inj.1
    rw [hcs]
  refine (owns_walk W a0 len cap zs hz (by omega) hr d t id x xn xc by_ on hd xs hxs hxn hxr).mono ?_
  rintro e W' ⟨rfl, hm⟩
  have hb : Below W.heap.size W W' := hm.below (Nat.le_refl _) (fun _ _ h => h)
  have ha0 := Below.trod Try.laidOut (by kernel_rfl) (of_decide_eq_true (by kernel_rfl)) h0k hb (fun y hy => hlt y (by simp [hy]))
  have ha1 := Below.trod Try.laidOut (by kernel_rfl) (of_decide_eq_true (by kernel_rfl)) h1k hb (fun y hy => hlt y (by simp [hy]))
  have h3 := trodAll_cons_mk ha0 (trodAll_cons_mk ha1 trodAll_mk0)
  exact ⟨_, rfl, _, _, _, [], _, [], hW', trodAll_cons_mk (shut_bool Try.underlying4 _) trodAll_mk0, h3, rfl, by simpa using hb.frame _, fun h => by cases h⟩

theorem planOwns_holds : Rows.PlanOwnsSaid :=
  OpenClaim.holds_of_wide 5 Try.f5 rfl rfl rfl rfl rfl rfl rfl ⟨rfl, rfl, rfl, rfl, rfl⟩ rfl rfl rfl rfl rfl (by kernel_rfl) Try.func5 (by kernel_rfl)
    (of_decide_eq_true (by kernel_rfl)) (by unfold Func.isWrapper; first | (rw [if_pos (by decide +kernel)]; kernel_rfl) | (rw [if_neg (by decide +kernel)]; exact ⟨rfl, rfl⟩))
    (fun os started H enc _ => owns_lifted os started H enc)
#print axioms planOwns_holds
end Go.Proofs.Ytelfhcojpigkoaa
