/- Contracts of package plan: Delete, Shift, Enable, Clear, Next, Between. -/
import Derived.Test.YtelfhcojpigkoaaPlan5
namespace Go.Proofs.Ytelfhcojpigkoaa
open Go Go.RowKit

section
variable {B : Nat} {w w' : World} {p : Nat} {v : Value} {M : Nat} {ml : List (Int × Value)} {L : List It} {off : Bool}
theorem PlanAt.slices (h : PlanAt B w p v M ml L off) : ∀ x ∈ L, ∃ a n c, x.v = .slice a n c := fun x hx => by
  obtain ⟨a, c, e⟩ := own_slice (h.tcs x hx).1
  exact ⟨a, _, c, e⟩

theorem delete_none (h : PlanAt B w p v M ml L off) (id : Int) (hid : L.any (fun x => x.id == id) = false) :
    Calls Try.prog 28 #[.pointer (some ⟨p, 0, none⟩), .int .u16 id] w fun e w' => e = .returned (.int .i64 3) ∧ Mod NoB w w' := by
  have hA : ∀ nq, PlanAt B ((w.alloc (.cells #[Value.int .u16 id] 29)).drewN nq) p v M ml L off := fun nq => h.mod (((Mod.refl NoB w).alloc _).drewN nq) (fun _ _ h => h)
  have hlk : ∀ nq, (Instr.lookup 59 (.map (some M)) (.int .u16 id) false).run Try.prog ((w.alloc (.cells #[Value.int .u16 id] 29)).drewN nq) = .ok (.bool false) ((w.alloc (.cells #[Value.int .u16 id] 29)).drewN nq) := fun nq => by
    rw [ids_lookup (hA nq) id, hid]
  have hlk1 := hlk 1
  have hlk0 := hlk 0
  have hc1 := (hA 0).blk.cell 1
  simp at hc1
  clear hA hid
  go_enter Try.func28, Try.ntmps28
  go_wp2_with fail
  go_quiet (fail)
  go_wp2_with fail
  go_ret
  exact ⟨rfl, ((Mod.refl _ w).alloc _).drewN _⟩
/-- What stays when one number goes. -/
def others (L : List It) (id : Int) : List It := L.filter (fun x => !(x.id == id))
theorem ids_other {ml : List (Int × Value)} {L : List It} {id : Int} (h : IdsOk ml L) : IdsOk (mdel ml id) (others L id) := by
  refine ⟨mdel_nodup h.1 _, fun a => ?_⟩
  rw [mget_mdel h.1, h.2]
  unfold others
  by_cases ha : id = a
  · subst ha
    rw [if_pos rfl]
    have : (L.filter (fun x => !(x.id == id))).any (fun y => y.id == id) = false := by
      rw [List.any_eq_false]
      intro y hy
      have := (List.mem_filter.1 hy).2
      simpa using this
    rw [this]; rfl
  · rw [if_neg ha]
    have : (L.filter (fun x => !(x.id == id))).any (fun y => y.id == a) = L.any (fun y => y.id == a) := by
      rw [Bool.eq_iff_iff, List.any_eq_true, List.any_eq_true]
      constructor
      · rintro ⟨y, hy, hya⟩; exact ⟨y, (List.mem_filter.1 hy).1, hya⟩
      · rintro ⟨y, hy, hya⟩
        refine ⟨y, List.mem_filter.2 ⟨hy, ?_⟩, hya⟩
        simp at hya ⊢
        intro e; exact ha (by rw [← e, hya])
    rw [this]

set_option maxHeartbeats 2000000 in
theorem delete_ok (h : PlanAt B w p v M ml L off) (id : Int) (hid : L.any (fun x => x.id == id) = true) :
    Calls Try.prog 28 #[.pointer (some ⟨p, 0, none⟩), .int .u16 id] w fun e w' => e = .returned (.int .i64 0) ∧ ∃ v', PlanAt B w' p v' M (mdel ml id) (others L id) off ∧ Mod (foot p v M) w w' ∧ (∀ g, v'.ownBlock = some g → v.ownBlock = some g ∨ w.heap.size ≤ g) := by
  obtain ⟨a, c, rfl⟩ := own_slice h.own
  have hA : ∀ nq, PlanAt B ((w.alloc (.cells #[Value.int .u16 id] 29)).drewN nq) p (.slice a L.length c) M ml L off := fun nq => h.mod (((Mod.refl NoB w).alloc _).drewN nq) (fun _ _ h => h)
  have hlk : ∀ nq, (Instr.lookup 59 (.map (some M)) (.int .u16 id) false).run Try.prog ((w.alloc (.cells #[Value.int .u16 id] 29)).drewN nq) = .ok (.bool true) ((w.alloc (.cells #[Value.int .u16 id] 29)).drewN nq) := fun nq => by
    rw [ids_lookup (hA nq) id, hid]
  have hlk1 := hlk 1
  have hlk0 := hlk 0
  have hc1 := (hA 0).blk.cell 1
  have hc0 := (hA 0).blk.cell 0
  simp at hc1 hc0
  obtain ⟨n, hn⟩ : ∃ n, n = L.length := ⟨_, rfl⟩
  rw [← hn] at hc0
  have HN := Lib.hid hn
  clear hn
  go_enter Try.func28, Try.ntmps28
  go_wp2_with fail
  go_quiet (fail)
  go_wp2_with fail
  have hQ := hA nq
  have hmQ : Mod NoB w ((w.alloc (.cells #[Value.int .u16 id] 29)).drewN nq) := ((Mod.refl NoB w).alloc _).drewN nq
  have hbox : Blk ((w.alloc (.cells #[Value.int .u16 id] 29)).drewN nq) w.heap.size 29 [.int .u16 id] := Blk.new w 29 [.int .u16 id]
  obtain ⟨W, hW⟩ : ∃ W, W = (w.alloc (.cells #[Value.int .u16 id] 29)).drewN nq := ⟨_, rfl⟩
  rw [← hW] at hQ hmQ hbox ⊢
  clear hA hlk1 hlk0 hlk hc1 hc0 hW
  refine (deleteFunc_id W B n a c L w.heap.size id (by rw [HN.out]; exact hQ.own) HN.out.symm (by rw [HN.out]; have := h.few; omega) h.slices hbox).mono ?_
  rintro e w2 ⟨i, rfl, hi, ho2, hm2⟩
  rw [HN.out] at hm2
  have hvp : ¬ (Value.slice a L.length c).ownBlock = some p := own_ne_blk hQ.own hQ.blk (by decide)
  have hvM : ¬ (Value.slice a L.length c).ownBlock = some M := own_ne_map hQ.own hQ.map
  have hvq : ¬ (Value.slice a L.length c).ownBlock = some w.heap.size := own_ne_blk hQ.own hbox (by decide)
  have hb2 := hQ.blk.mod hm2 hvp
  have hbx2 := hbox.mod hm2 hvq
  have hmp2 := hQ.map.mod hm2 hvM
  have e0 := hb2.cell 0
  have e1 := hb2.cell 1
  have f0 := hb2.frozen 0
  have x0 := hbx2.cell 0
  simp at e0 e1 x0
  have hset : Mod (· = p) w2 (w2.setCell ⟨p, 0, none⟩ (.slice a i c)) := (Mod.refl _ _).setCell _ (fun _ => rfl)
  have hb3 := hb2.setCell 0 (.slice a i c)
  have hpM : ¬ M = p := fun e => h.map.ne_blk h.blk e
  have hmp3' := hmp2.mod hset hpM
  have hmp3 : MapAt (w2.setCell ⟨p, 0, none⟩ (.slice a i c)).drew M .u16 ml := hmp3'
  obtain ⟨w4, hdel, hmap4, hm4⟩ := run_delete_map (P := Try.prog) (ty := 0) Try.underlying59 Try.under29 hmp3 id (by rw [h.ids.2, hid]; rfl)
  have hpq : ¬ w.heap.size = p := fun e => by have := h.blk.lt; omega
  have y1 := hb3.cell 1
  have y0 := (hbx2.mod hset hpq).cell 0
  simp at y1 y0
  have HI := Lib.hid hi
  clear hi
  go_wp2_with fail
  go_region
  all_goals go_wp2_with fail
  all_goals go_ret
  all_goals
    have hm4' : Mod (· = M) (w2.setCell ⟨p, 0, none⟩ (.slice a i c)) w4 := ⟨hm4.os, hm4.tape, hm4.output, hm4.size, hm4.block⟩
    have m2 : Mod (foot p (.slice a L.length c) M) w w2 := (hmQ.mono (fun _ _ h => h.elim)).trans' hm2 (fun k _ hk => .inr (.inr hk))
    have m3 := m2.trans' hset (fun k _ hk => .inl hk)
    have hall := m3.trans' hm4' (fun k _ hk => .inr (.inl hk))
    have hsub : ∀ x ∈ others L id, x ∈ L := fun x hx => (List.mem_filter.1 hx).1
    have hlen : (others L id).length ≤ L.length := List.length_filter_le _ _
    have hg : ∀ g, (Value.slice a i c).ownBlock = some g → (Value.slice a L.length c).ownBlock = some g := fun g hg => by cases a <;> exact hg
    refine ⟨rfl, .slice a i c, ⟨hb3.mod hm4' (fun e => hpM e.symm), ?_, hmap4, ids_other h.ids, fun x hx => (h.tcs x (hsub x hx)).mod hall (fun g hg => h.apart (h.tcs x (hsub x hx)) g hg), h.low, by have := h.few; omega, fun x hx => h.rng x (hsub x hx), ?_, ?_⟩, hall, fun g hg' => .inl (hg g hg')⟩
    · have i1 := hset.own ho2 (fun g hg' e => hvp (by rw [hg g hg', e]))
      have i2 := hm4'.own i1 (fun g hg' e => hvM (by rw [hg g hg', e]))
      have hi := HI.out
      unfold others
      rw [← hi]
      exact i2
    · unfold times others; exact h.srt.sublist ((List.filter_sublist).map _)
    · unfold others; exact h.uniq.sublist ((List.filter_sublist).map _)

theorem enable_walk (h : PlanAt B w p v M ml L off) (on : Bool) :
    Calls Try.prog 30 #[.pointer (some ⟨p, 0, none⟩), .bool on] w fun e w' => e = .returned (.tuple #[]) ∧ PlanAt B w' p v M ml L (!on) ∧ Mod (foot p v M) w w' := by
  have e2 := h.blk.cell 2
  have f2 := h.blk.frozen 2
  simp at e2
  go_enter Try.func30, Try.ntmps30
  go_wp2_with fail
  go_end0
  have hset : Mod (· = p) w (w.setCell ⟨p, 2, none⟩ (.bool (!on))) := (Mod.refl _ _).setCell _ (fun _ => rfl)
  have hpM : ¬ M = p := fun e => h.map.ne_blk h.blk e
  have hall : Mod (foot p v M) w (w.setCell ⟨p, 2, none⟩ (.bool (!on))) := hset.mono (fun _ _ e => .inl e)
  exact ⟨rfl, ⟨h.blk.setCell 2 _, hset.own h.own (fun g hg e => own_ne_blk h.own h.blk (by decide) (by rw [hg, e])), h.map.mod hset hpM, h.ids, fun x hx => (h.tcs x hx).mod hall (fun g hg => h.apart (h.tcs x hx) g hg), h.low, h.few, h.rng, h.srt, h.uniq⟩, hall⟩

theorem next_some (h : PlanAt B w p v M ml L off) : Calls Try.prog 14 #[.pointer (some ⟨p, 0, none⟩)] w fun e w' => (∃ t, e = .returned (.tuple #[.int .u32 t, .bool (decide (0 < L.length))]) ∧ (∀ x, L[0]? = some x → t = x.t)) ∧ w = w' := by
  have hlen := len_walk h
  obtain ⟨a, c, rfl⟩ := own_slice h.own
  have e0 := h.blk.cell 0
  simp at e0
  obtain ⟨n, hn⟩ : ∃ n, n = L.length := ⟨_, rfl⟩
  rw [← hn] at hlen e0 ⊢
  have HLEN := Lib.hid hlen
  clear hlen
  cases hL : L with
  | nil =>
    obtain rfl : n = 0 := by rw [hn, hL]; rfl
    clear hn hL h
    go_enter Try.func14, Try.ntmps14
    go_wp2_with fail
    refine HLEN.out.mono ?_
    rintro e w1 ⟨rfl, hw⟩
    obtain rfl := hw.symm
    go_wp2_with fail
    go_ret2
    exact ⟨⟨0, rfl, by simp⟩, rfl⟩
  | cons x l =>
    have hpos : 0 < n := by rw [hn, hL]; simp
    obtain ⟨g, rfl, hcell⟩ : ∃ g, a = some ⟨g, 0, none⟩ ∧ w.cell? ⟨g, 0, none⟩ = some (.int .u32 x.t) := by
      rcases h.own.2 with ⟨_, h0⟩ | ⟨g, cap, cur, hv, _, hg, _⟩
      · omega
      · cases hv
        refine ⟨g, rfl, ?_⟩
        rw [h.own.cellAt 0 (by omega), hL]
        rfl
    obtain ⟨xt, hxt⟩ : ∃ xt, xt = x.t := ⟨_, rfl⟩
    rw [← hxt] at hcell
    have HXT := Lib.hid hxt
    have hnz : ((n : Int) == 0) = false := beq_eq_false_iff_ne.2 (by omega)
    have hdn : decide (0 < n) = true := by simpa using hpos
    have HDN := Lib.hid hdn
    clear hn hL h hxt hdn
    go_enter Try.func14, Try.ntmps14
    go_wp2_with fail
    refine HLEN.out.mono ?_
    rintro e w1 ⟨rfl, hw⟩
    obtain rfl := hw.symm
    go_wp2_with fail
    go_ret2
    refine ⟨⟨xt, by rw [HDN.out]; rfl, fun y hy => ?_⟩, rfl⟩
    simp at hy
    subst hy
    exact HXT.out
end
end Go.Proofs.Ytelfhcojpigkoaa
