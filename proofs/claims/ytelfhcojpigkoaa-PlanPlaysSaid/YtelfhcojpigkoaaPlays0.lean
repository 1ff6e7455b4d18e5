/- PlanPlays: the plan and the document's plan, side by side: what they share. -/
import Derived.Test.YtelfhcojpigkoaaPlan8
namespace Go.Proofs.Ytelfhcojpigkoaa
open Go Go.RowKit

theorem PlanAt.mod2 {S : Nat → Prop} {B : Nat} {w w' : World} {p : Nat} {v : Value} {M : Nat} {ml : List (Int × Value)} {L : List It} {off : Bool} (h : PlanAt B w p v M ml L off) (hm : Mod S w w') (hp : ¬ S p) (hM : ¬ S M) (hv : ∀ g, v.ownBlock = some g → ¬ S g) (ht : ∀ y ∈ L, ∀ g, y.v.ownBlock = some g → ¬ S g) : PlanAt B w' p v M ml L off :=
  { blk := h.blk.mod hm hp, own := hm.own h.own hv, map := h.map.mod hm hM, ids := h.ids, tcs := fun x hx => (h.tcs x hx).mod hm (ht x hx), low := h.low, few := h.few, rng := h.rng, srt := h.srt, uniq := h.uniq }

theorem nk_len {L R : List It} (h : nk L = nk R) : L.length = R.length := by rw [← nk_length, h, nk_length]
theorem nk_get {L R : List It} (h : nk L = nk R) {k : Nat} {x y : It} (hx : L[k]? = some x) (hy : R[k]? = some y) : x.t = y.t ∧ x.id = y.id ∧ x.tc = y.tc := by
  have h1 : (nk L)[k]? = some x.nrm := by simp [nk, hx]
  have h2 : (nk R)[k]? = some y.nrm := by simp [nk, hy]
  rw [h, h2] at h1
  have h3 := Option.some.inj h1
  simp [It.nrm] at h3
  exact ⟨h3.1.symm, h3.2.1.symm, h3.2.2.symm⟩
theorem same_of_nk {L R : List It} (h : nk L = nk R) (k : Nat) (x y : It) (hx : L[k]? = some x) (hy : R[k]? = some y) : sameIt x y = true := by
  obtain ⟨h1, h2, h3⟩ := nk_get h hx hy
  simp [sameIt, It.byt, h1, h2, h3]
/-- Every command is bytes. -/
def Byts (L : List It) : Prop := ∀ y ∈ L, ∃ zs : List Int, y.tc = bv zs
theorem Byts.nk {L R : List It} (h : nk L = nk R) (hb : Byts L) : Byts R := fun y hy => by
  obtain ⟨k, hk⟩ := List.mem_iff_getElem?.1 hy
  have hl := nk_len h
  have hkR : k < R.length := (List.getElem?_eq_some_iff.1 hk).1
  have hkL : L[k]? = some L[k] := List.getElem?_eq_getElem (by omega)
  obtain ⟨zs, hz⟩ := hb _ (List.mem_of_getElem? hkL)
  exact ⟨zs, by rw [← (nk_get h hkL hk).2.2, hz]⟩
theorem Byts.filter {L : List It} (h : Byts L) (q : It → Bool) : Byts (L.filter q) := fun y hy => h y (List.mem_filter.1 hy).1
theorem Byts.rd {w : World} {B : Nat} {L : List It} (h : Byts L) (ht : ∀ y ∈ L, TcAt w B y) : ∀ y ∈ L, RdIt w y := fun y hy => RdIt.of_tc (ht y hy) (h y hy)
theorem byt_of {y : It} (h : ∃ zs : List Int, y.tc = bv zs) : y.tc = bv y.byt := by
  obtain ⟨zs, hz⟩ := h
  unfold It.byt
  rw [hz, byt_bv]
theorem nk_byts {L R : List It} (h : nk L = nk R) : L.map It.byt = R.map It.byt := by
  apply List.ext_getElem?
  intro k
  have hl := nk_len h
  by_cases hk : k < L.length
  · have h1 : L[k]? = some L[k] := List.getElem?_eq_getElem hk
    have h2 : R[k]? = some (R[k]'(by omega)) := List.getElem?_eq_getElem (by omega)
    rw [List.getElem?_map, List.getElem?_map, h1, h2]
    simp [It.byt, (nk_get h h1 h2).2.2]
  · rw [List.getElem?_eq_none (by simp; omega), List.getElem?_eq_none (by simp; omega)]
/-- What is due, as one reads it. -/
theorem rdAll_due {w : World} {B : Nat} {L : List It} (hb : Byts L) (ht : ∀ y ∈ L, TcAt w B y) : RdAll w (dueVals L) (L.map It.byt) := by
  refine ⟨by simp [dueVals], fun k v l hv hl => ?_⟩
  simp only [dueVals, List.getElem?_map, Option.map_eq_some_iff] at hv hl
  obtain ⟨y, hy, rfl⟩ := hv
  obtain ⟨y', hy', rfl⟩ := hl
  rw [hy] at hy'
  cases hy'
  have hm := List.mem_of_getElem? hy
  have htc := ht y hm
  have he := byt_of (hb y hm)
  have hle : y.tc.length = y.byt.length := by unfold It.byt; simp
  obtain ⟨a, c, e⟩ := own_slice htc.1
  have ho := htc.1
  rw [e] at ho
  refine ⟨a, c, by rw [e, hle], ?_, by have := htc.2.2; omega⟩
  rw [← he]
  exact Rd.of_own ho
theorem stepS_byts {K : List It} {off : Bool} {d t id : Int} {tc : List Value} {by_ : Int} {on : Bool} (h : Byts K) (ht : ∃ zs, tc = bv zs) : Byts (stepS K off d t id tc by_ on).2.1 ∧ Byts (stepS K off d t id tc by_ on).2.2.1 := by
  have hn : Byts [] := fun y hy => by cases hy
  unfold stepS
  repeat' split
  all_goals (refine ⟨?_, ?_⟩; all_goals first | exact hn | exact h | exact h.filter _ | skip)
  · intro y hy
    obtain ⟨z, hz, rfl⟩ := List.mem_map.1 hy
    exact h z hz
  · intro y hy
    rcases insAt_mem hy with hy | rfl
    · exact h y hy
    · exact ht
theorem stepS_len {K : List It} {off : Bool} {d t id : Int} {tc : List Value} {by_ : Int} {on : Bool} : (stepS K off d t id tc by_ on).2.1.length ≤ K.length := by
  unfold stepS
  repeat' split
  all_goals first | exact Nat.zero_le _ | exact List.length_filter_le _ _
theorem byts_nrm {L : List It} (h : Byts (nk L)) : Byts L := fun y hy => h y.nrm (List.mem_map.2 ⟨y, hy, rfl⟩)
theorem nrm_byts {L : List It} (h : Byts L) : Byts (nk L) := fun y hy => by
  obtain ⟨z, hz, rfl⟩ := List.mem_map.1 hy
  exact h z hz
theorem nk_copied {w : World} {B : Nat} {L L2 : List It} (hl : L2.length = L.length) (h : ∀ (k : Nat) (x y : It), L[k]? = some x → L2[k]? = some y → Copied w B x y) : nk L2 = nk L ∧ ∀ y ∈ L2, TcAt w B y := by
  constructor
  · apply List.ext_getElem?
    intro k
    by_cases hk : k < L.length
    · have h1 : L[k]? = some L[k] := List.getElem?_eq_getElem hk
      have h2 : L2[k]? = some (L2[k]'(by omega)) := List.getElem?_eq_getElem (by omega)
      unfold nk
      rw [List.getElem?_map, List.getElem?_map, h1, h2]
      have hc := h k _ _ h1 h2
      simp [It.nrm, hc.1, hc.2.1, hc.2.2.1]
    · rw [List.getElem?_eq_none (by simp [nk_length]; omega), List.getElem?_eq_none (by simp [nk_length]; omega)]
  · intro y hy
    obtain ⟨k, hk⟩ := List.mem_iff_getElem?.1 hy
    have hkR : k < L2.length := (List.getElem?_eq_some_iff.1 hk).1
    exact (h k _ y (List.getElem?_eq_getElem (by omega)) hk).2.2.2

/-- The plan and the document's, alike. -/
structure Both (B : Nat) (w : World) (p x : Nat) (v : Value) (M : Nat) (ml : List (Int × Value)) (L : List It) (vx : Value) (R : List It) (off : Bool) : Prop where
  pl : PlanAt B w p v M ml L off
  rf : RefAt B w x vx R off
  nks : nk L = nk R
  byt : Byts L
section
variable {B : Nat} {w w' : World} {p x : Nat} {v : Value} {M : Nat} {ml : List (Int × Value)} {L : List It} {vx : Value} {R : List It} {off : Bool}
theorem Both.bytR (h : Both B w p x v M ml L vx R off) : Byts R := Byts.nk h.nks h.byt
theorem Both.nob (h : Both B w p x v M ml L vx R off) (hm : Mod NoB w w') : Both B w' p x v M ml L vx R off := ⟨h.pl.mod hm (fun _ _ h => h), h.rf.nob hm, h.nks, h.byt⟩
theorem Both.rsrt (h : Both B w p x v M ml L vx R off) : (times R).Pairwise (· ≤ ·) := by
  have := h.pl.srt
  rwa [← nk_times, h.nks, nk_times] at this
theorem nk_ids (L : List It) : (nk L).map It.id = L.map It.id := by simp [nk, It.nrm, Function.comp_def]
theorem Both.runiq (h : Both B w p x v M ml L vx R off) : (R.map It.id).Nodup := by
  have := h.pl.uniq
  rwa [← nk_ids, h.nks, nk_ids] at this
theorem Both.rrng (h : Both B w p x v M ml L vx R off) : ∀ y ∈ R, 0 ≤ y.t ∧ y.t < 4294967296 := fun y hy => by
  have hr : y.t ∈ times R := List.mem_map.2 ⟨y, hy, rfl⟩
  rw [← nk_times, ← h.nks, nk_times] at hr
  obtain ⟨z, hz, e⟩ := List.mem_map.1 hr
  rw [← e]
  exact h.pl.rng z hz
/-- The plan's blocks are none of the document's. -/
theorem plan_apart {off2 : Bool} (hp : PlanAt B w p v M ml L off) (hr : RefAt B w x vx R off2) : ¬ rfoot x vx p ∧ ¬ rfoot x vx M ∧ (∀ g, v.ownBlock = some g → ¬ rfoot x vx g) ∧ (∀ y ∈ L, ∀ g, y.v.ownBlock = some g → ¬ rfoot x vx g) := by
  refine ⟨?_, ?_, ?_, ?_⟩
  · rintro (h | h)
    · exact (hp.blk.ne hr.blk (by decide)) h
    · exact own_ne_blk hr.own hp.blk (by decide) h
  · rintro (h | h)
    · exact hp.map.ne_blk hr.blk h
    · exact own_ne_map hr.own hp.map h
  · rintro g hg (h | h)
    · subst h; exact own_ne_blk hp.own hr.blk (by decide) hg
    · exact own_ne_own hp.own hr.own (by decide) g hg h
  · intro y hy g hg
    exact hr.apart (hp.tcs y hy) g hg
theorem RefAt.below (hr : RefAt B w x vx R off) (k : Nat) (hk : k < B) : ¬ rfoot x vx k := by
  rintro (h | h)
  · have := hr.low; omega
  · have := (hr.own.lt k h).1; omega
theorem ref_apart {off2 : Bool} (hp : PlanAt B w p v M ml L off) (hr : RefAt B w x vx R off2) : ¬ foot p v M x ∧ (∀ g, vx.ownBlock = some g → ¬ foot p v M g) ∧ (∀ y ∈ R, ∀ g, y.v.ownBlock = some g → ¬ foot p v M g) := by
  refine ⟨?_, ?_, ?_⟩
  · rintro (h | h | h)
    · exact (hr.blk.ne hp.blk (by decide)) h
    · exact hp.map.ne_blk hr.blk h.symm
    · exact own_ne_blk hp.own hr.blk (by decide) h
  · rintro g hg (h | h | h)
    · subst h; exact own_ne_blk hr.own hp.blk (by decide) hg
    · subst h; exact own_ne_map hr.own hp.map hg
    · exact own_ne_own hr.own hp.own (by decide) g hg h
  · intro y hy g hg
    exact hp.apart (hr.tcs y hy) g hg
/-- Such items are found alike, whenever one looks. -/
def LikeOk (W : World) (a a' : Option Addr) (n c c' : Nat) : Prop := ∀ W', Mod NoB W W' → Calls Try.prog 16 #[.slice a n c, .slice a' n c'] W' fun e w' => e = .returned (.bool true) ∧ Mod NoB W' w'
theorem Both.like (h : Both B w p x v M ml L vx R off) {N : Nat} {ra : Option Addr} {rc : Nat} (hN : L.length = N) (hv : vx = .slice ra N rc) : ∀ W, Mod NoB w W → Calls Try.prog 17 #[.pointer (some ⟨p, 0, none⟩)] W fun e w' => ∃ a' c', e = .returned (.slice a' N c') ∧ Mod NoB W w' ∧ LikeOk w' a' ra N c' rc := fun W hm => by
  have hW := h.nob hm
  refine (all_walk hW.pl).mono ?_
  rintro e w' ⟨a', c', L2, rfl, ho, hl, hcp, hm2⟩
  refine ⟨a', c', by rw [hN], hm2, fun W' hm3 => ?_⟩
  obtain ⟨hk, ht⟩ := nk_copied hl hcp
  have hR := (hW.nob hm2).nob hm3
  have hro := hR.rf.own
  have hNR : R.length = N := by rw [← nk_len h.nks, hN]
  rw [hv, hNR] at hro
  rw [hN] at ho
  refine (like_walk W' _ _ a' ra N N c' rc L2 R (hm3.own ho (fun _ _ h => h)) hro (by rw [hl, hN]) hNR (by have := h.pl.few; omega) (fun y hy => (Byts.rd (Byts.nk hk.symm h.byt) ht y hy).nob hm3) (Byts.rd hR.bytR hR.rf.tcs)).mono ?_
  rintro e w'' ⟨b, rfl, hb, hm4⟩
  refine ⟨?_, hm4⟩
  rw [hb.2 ⟨rfl, same_of_nk (by rw [hk, h.nks])⟩]
theorem sames_ok {w : World} {la oa : Option Addr} {lc oc : Nat} {A A' : List It} {B B' base base' : Nat} (hk : nk A = nk A') (hb : Byts A) {N : Nat} (hN : A.length = N) (hn : N ≤ 1000) (ho : w.ownsRow base 22 1 (.slice la N lc) N (dueVals A)) (ho' : w.ownsRow base' 22 1 (.slice oa N oc) N (dueVals A')) (ht : ∀ y ∈ A, TcAt w B y) (ht' : ∀ y ∈ A', TcAt w B' y) :
    ∀ W, Mod NoB w W → Calls Try.prog 15 #[.slice la N lc, .slice oa N oc] W fun e w' => e = .returned (.bool true) ∧ Mod NoB W w' := fun W hm => by
  have hN' : A'.length = N := by rw [← nk_len hk, hN]
  refine (sames_walk W la oa N N lc oc (dueVals A) (dueVals A') (A.map It.byt) (A'.map It.byt) ((Rd.of_own ho).nob hm) ((Rd.of_own ho').nob hm) (by simp [dueVals, hN]) (by simp [dueVals, hN']) hn ((rdAll_due hb ht).nob hm) ((rdAll_due (Byts.nk hk hb) ht').nob hm)).mono ?_
  rintro e w' ⟨rfl, hm'⟩
  refine ⟨?_, hm'⟩
  rw [nk_byts hk]
  simp
end
end Go.Proofs.Ytelfhcojpigkoaa
