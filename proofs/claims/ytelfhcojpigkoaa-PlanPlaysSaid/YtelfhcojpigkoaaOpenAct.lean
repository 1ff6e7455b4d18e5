/- An act, opened field by field. -/
import Derived.Test.YtelfhcojpigkoaaOpen
namespace Go.Proofs.Ytelfhcojpigkoaa
open Go Go.ChangeShapes Go.WideShapes Go.ChangeAt Go.RowKit

theorem Try.one41 : Try.prog.cellsOf 41 = 6 := by kernel_rfl

/-- An act, field by field. -/
theorem open_act {H : Type} {enc : TypeId × Value → H} {w : World} {base : Nat} {spare : Nat → Bool} {held : Bool} {fuel : Nat} {cs : List Value} {x : DataW H × List MemPlace}
    (h : DataW.trod enc Try.prog w base spare held fuel 41 cs = some x) :
    ∃ (d t id : Int) (a : Option Addr) (n c : Nat) (by_ : Int) (on : Bool) (xs : List Int), cs = [.int .u8 d, .int .u32 t, .int .u16 id, .slice a n c, .int .i32 by_, .bool on] ∧ (0 ≤ d ∧ d ≤ 255) ∧ (0 ≤ t ∧ t < 4294967296) ∧ (0 ≤ id ∧ id < 65536) ∧
      (-2147483648 ≤ by_ ∧ by_ < 2147483648) ∧ xs.length = n ∧ n ≤ 9223372036854775807 ∧ (∀ z ∈ xs, 0 ≤ z ∧ z ≤ 255) ∧ Rd w a (bv xs) := by
  obtain ⟨hl, hf⟩ := open_fields Try.underlying41 (by kernel_rfl) Try.one41 h
  obtain ⟨v0, n0, y0, e0, t0⟩ := hf 0 _ rfl
  obtain ⟨v1, n1, y1, e1, t1⟩ := hf 1 _ rfl
  obtain ⟨v2, n2, y2, e2, t2⟩ := hf 2 _ rfl
  obtain ⟨v3, n3, y3, e3, t3⟩ := hf 3 _ rfl
  obtain ⟨v4, n4, y4, e4, t4⟩ := hf 4 _ rfl
  obtain ⟨v5, n5, y5, e5, t5⟩ := hf 5 _ rfl
  obtain ⟨d, h0, -, w0⟩ := DataW.trod_int Try.underlying5 t0
  obtain ⟨t, h1, -, w1⟩ := DataW.trod_int Try.underlying28 t1
  obtain ⟨id, h2, -, w2⟩ := DataW.trod_int Try.underlying29 t2
  obtain ⟨a, n, c, xs, h3, hx1, hx2, hx3, hx4, hx5⟩ := open_u8s Try.underlying22 Try.underlying5 Try.cellsU8 t3
  obtain ⟨by_, h4, -, w4⟩ := DataW.trod_int Try.underlying21 t4
  obtain ⟨on, h5, -⟩ := DataW.trod_bool Try.underlying4 t5
  simp only [List.cons.injEq, and_true] at h0 h1 h2 h4 h5
  subst h0 h1 h2 h3 h4 h5
  refine ⟨d, t, id, a, n, c, by_, on, xs, ?_, u8_wf w0, ?_, ?_, ?_, hx1, by omega, hx4, hx5⟩
  · match cs, hl with
    | [c0, c1, c2, c3, c4, c5], _ =>
      simp at e0 e1 e2 e3 e4 e5
      subst e0 e1 e2 e3 e4 e5
      rfl
  · have := w1; simp [Lit.wf, IntKind.min, IntKind.max, IntKind.signed, IntKind.bits] at this; omega
  · have := w2; simp [Lit.wf, IntKind.min, IntKind.max, IntKind.signed, IntKind.bits] at this; omega
  · have := w4; simp [Lit.wf, IntKind.min, IntKind.max, IntKind.signed, IntKind.bits] at this; omega

end Go.Proofs.Ytelfhcojpigkoaa
