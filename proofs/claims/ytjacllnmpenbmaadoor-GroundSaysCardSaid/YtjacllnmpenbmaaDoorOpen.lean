/- Arguments opened: a slice of bytes as what it reads; a struct of one-cell fields, field by field. -/
import Derived.Test.YtjacllnmpenbmaaDoorBytes
import Derived.ProofKit
import Derived.OpenShut
import Derived.Carry
import Derived.Deep.Fields
namespace Go.Proofs.YtjacllnmpenbmaaDoor
open Go Go.ChangeShapes Go.WideShapes Go.ChangeAt Go.RowKit

theorem Tryd.own : ownKnob Tryd.prog.godebug = none := by kernel_rfl
theorem Tryd.laidOut : laidOutB Tryd.prog = true := by kernel_rfl
theorem Tryd.cellsU8 : Tryd.prog.cellsOf 5 = 1 := by kernel_rfl
theorem Tryd.underU8 : Tryd.prog.underlying 5 = some (.int .u8) := by kernel_rfl

theorem u8_wf {z : Int} (h : (Lit.int .u8 z).wf = true) : 0 ≤ z ∧ z ≤ 255 := by
  simpa [Lit.wf, IntKind.min, IntKind.max, IntKind.signed, IntKind.bits] using h

section
variable {H : Type} {enc : TypeId × Value → H} {P : Program} {w : World} {base : Nat} {spare : Nat → Bool} {held : Bool} {fuel : Nat}
theorem open_u8s {t e : TypeId} {v : Value} {x : DataW H × List MemPlace} (ht : P.underlying t = some (.slice e)) (he : P.underlying e = some (.int .u8)) (hc : P.cellsOf e = 1) (h : DataW.trod enc P w base spare held fuel t [v] = some x) :
    ∃ a n c zs, v = .slice a n c ∧ zs.length = n ∧ n ≤ c ∧ c ≤ 9223372036854775807 ∧ (∀ z ∈ zs, 0 ≤ z ∧ z ≤ 255) ∧ Rd w a (bv zs) := by
  rcases open_ints ht he hc h with ⟨hcs, -⟩ | ⟨a, len, cap, zs, hcs, -, hl, hm, hz, -, hcell, hwz⟩
  · simp at hcs
    subst hcs
    exact ⟨none, 0, 0, [], rfl, rfl, Nat.le_refl _, by omega, by simp, Rd.nil _ _⟩
  · simp at hcs
    subst hcs
    have hzl : len ≤ zs.length := by rw [hz]; split <;> omega
    unfold maxLen at hm
    refine ⟨some a, len, cap, zs.take len, rfl, by simp; omega, hl, hm, fun z hz' => u8_wf (hwz z (List.mem_of_mem_take hz')), fun hne => ?_⟩
    have hpos : 0 < len := by
      rcases Nat.eq_zero_or_pos len with h0 | h0
      · subst h0; exact absurd rfl hne
      · exact h0
    obtain ⟨b, off, spot⟩ := a
    have hspot : spot = none := by simpa [Addr.add] using World.cell?_spot (hcell 0 (by omega))
    subst hspot
    have h0 := hcell 0 (by omega)
    have hb := World.block_lt_of_cell? w _ h0
    simp [Addr.add] at hb
    refine ⟨b, off, rfl, hb, fun j u hu => ?_⟩
    have hjl : j < (bv (zs.take len)).length := (List.getElem?_eq_some_iff.1 hu).1
    rw [bv_length, List.length_take] at hjl
    have hcj := hcell j (by omega)
    rw [Addr.add_mid] at hcj
    rw [hcj, ← hu]
    have : j < len := by omega
    have hjz : j < zs.length := by omega
    simp [bv, List.getElem?_take, this, List.getD, hjz]
/-- A struct of one-cell fields: each field's cell, and its own reading. -/
theorem open_fields {t : TypeId} {fs : Array Field} {cs : List Value} {x : DataW H × List MemPlace} (hs : P.underlying t = some (.struct fs)) (hone : Go.Deep.oneCellFields P fs = true) (hC : P.cellsOf t = fs.size) (h : DataW.trod enc P w base spare held fuel t cs = some x) :
    cs.length = fs.size ∧ ∀ (i : Nat) (f : Field), fs[i]? = some f → ∃ v n y, cs[i]? = some v ∧ DataW.trod enc P w base spare held n f.type [v] = some y := by
  obtain ⟨xs, n, -, -, hlen, hxl, hg⟩ := DataW.trod_struct hs h
  rw [hC] at hlen
  refine ⟨hlen, fun i f hf => ?_⟩
  obtain ⟨ho, hk⟩ := Go.Deep.hone_of hone i f hf
  have hi : i < fs.size := (Array.getElem?_eq_some_iff.1 hf).1
  have h1 := hg i f hf
  rw [ho, hk, List.drop_eq_getElem_cons (by omega), List.take_succ_cons, List.take_zero, List.getElem?_eq_getElem (by omega)] at h1
  exact ⟨cs[i], n, xs[i], List.getElem?_eq_getElem (by omega), h1⟩
end
end Go.Proofs.YtjacllnmpenbmaaDoor
