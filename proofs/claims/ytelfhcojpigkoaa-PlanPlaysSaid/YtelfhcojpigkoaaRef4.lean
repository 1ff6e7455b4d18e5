/- The reference's plan: Do, what is due, deleted, inserted. Printed by wip/gen/refdo.py. -/
import Derived.Test.YtelfhcojpigkoaaRef3
namespace Go.Proofs.Ytelfhcojpigkoaa
open Go Go.RowKit

theorem filter_del (R : List It) (j : Nat) (y : It) (id : Int) (hy : R[j]? = some y) (hid : (y.id == id) = true) (hu : (R.map It.id).Nodup) : R.filter (fun y => !(y.id == id)) = R.take j ++ R.drop (j + 1) := by
  induction R generalizing j with
  | nil => simp at hy
  | cons z R ih =>
    rw [List.map_cons, List.nodup_cons] at hu
    have hyi : y.id = id := by simpa using hid
    cases j with
    | zero =>
      simp at hy
      subst hy
      rw [List.filter_cons, hid]
      simp only [Bool.not_true, Bool.false_eq_true, if_false, List.take_zero, List.nil_append, List.drop_succ_cons, List.drop_zero]
      refine List.filter_eq_self.2 fun x hx => ?_
      have : ¬ x.id = id := fun e => hu.1 (by rw [hyi, ← e]; exact List.mem_map.2 ⟨x, hx, rfl⟩)
      simpa using this
    | succ j =>
      simp at hy
      have hz : ¬ z.id = id := fun e => hu.1 (by rw [e, ← hyi]; exact List.mem_map.2 ⟨y, List.mem_of_getElem? hy, rfl⟩)
      have hz' : (z.id == id) = false := by simpa using hz
      rw [List.filter_cons, hz']
      simp only [Bool.not_false, if_true, List.take_succ_cons, List.drop_succ_cons, List.cons_append]
      rw [ih j hy hu.2]
/-- Has an item's time come? -/
def early (now : Int) (y : It) : Bool := decide (y.t ≤ now)
section
variable {B : Nat} {w w' : World} {x : Nat} {v : Value} {R : List It} {off : Bool}
def Lens (R : List It) (t : Int) (k m1 m2 : Nat) : Prop := m1 = ((R.take k).filter (early t)).length ∧ m2 = ((R.take k).filter (fun y => !(early t y))).length
/-- What Do leaves where something may be due. -/
def RDuePost (B : Nat) (w : World) (x : Nat) (v : Value) (R : List It) (t : Int) (e : Ending) (w' : World) : Prop :=
  ∃ out v', e = .returned (.tuple #[.int .i64 0, out]) ∧ w'.ownsRow w.heap.size 22 1 out (R.filter (early t)).length (dueVals (R.filter (early t))) ∧ RefAt B w' x v' (R.filter (fun y => !(early t y))) false ∧
    (∀ y ∈ R, TcAt w' B y) ∧ Mod (rfoot x v) w w' ∧ (∀ g, v'.ownBlock = some g → w.heap.size ≤ g)

set_option maxHeartbeats 4000000 in
set_option maxRecDepth 20000 in
theorem ref_due_on (h : RefAt B w x v R off) (d t id : Int) (ta : Option Addr) (tn tk : Nat) (by_ : Int) (on : Bool) (hd : 0 ≤ d ∧ d ≤ 255) (hd4 : d % 8 = 4) (hoff : off = false) :
    Calls Try.prog 12 #[.pointer (some ⟨x, 0, none⟩), .agg #[.int .u8 d, .int .u32 t, .int .u16 id, .slice ta tn tk, .int .i32 by_, .bool on]] w (RDuePost B w x v R t) := by
  obtain ⟨a, c, rfl⟩ := own_slice h.own
  obtain ⟨n, hn⟩ : ∃ n, n = R.length := ⟨_, rfl⟩
  obtain ⟨W0, hW0⟩ : ∃ W0, W0 = w.alloc (.cells [Value.int .u8 d, .int .u32 t, .int .u16 id, .slice ta tn tk, .int .i32 by_, .bool on].toArray 41) := ⟨_, rfl⟩
  have hm0 : Mod NoB w W0 := by rw [hW0]; exact (Mod.refl _ _).alloc _
  have hbb : Blk W0 w.heap.size 41 [.int .u8 d, .int .u32 t, .int .u16 id, .slice ta tn tk, .int .i32 by_, .bool on] := by rw [hW0]; exact Blk.new w 41 _
  have h0 := h.nob hm0
  have e0 := h0.blk.cell 0
  simp at e0
  rw [← hn] at e0
  have ho := h0.own
  rw [← hn] at ho
  have hn32 : n ≤ 32 := by rw [hn]; exact h.few
  have HN := Lib.hid hn
  have HW0 := Lib.hid hW0
  clear hn hW0
  go_enter Try.func12, Try.ntmps12
  have e0' : (w.alloc (.cells #[Value.int .u8 d, .int .u32 t, .int .u16 id, .slice ta tn tk, .int .i32 by_, .bool on] 41)).cell? ⟨x, 0, none⟩ = some (.slice a n c) := by rw [HW0.out] at e0; exact e0
  go_wp2_with fail
  rw [show w.alloc (.cells #[Value.int .u8 d, .int .u32 t, .int .u16 id, .slice ta tn tk, .int .i32 by_, .bool on] 41) = W0 from HW0.out.symm]
  clear e0'
  go_loopw [6, 22] (fun z i wr => ∃ (k : Nat) (zz : Int), k ≤ n ∧ i = .int .i64 k ∧ z = .int .i64 zz ∧ AtOk R id k zz ∧ Mod NoB W0 wr) (fun _ i _ => n - (intOf i).toNat)
  case atStart => exact ⟨0, -1, Nat.zero_le _, rfl, rfl, .inl ⟨rfl, fun j y hj => by omega⟩, Mod.refl _ _⟩
  case round =>
    obtain ⟨k, zz, hk, rfl, rfl, hat, hm⟩ := hrel
    have HAT := Lib.hid hat
    clear hat
    by_cases hlt : k < n
    · have hk1 : k < R.length := by rw [← HN.out]; exact hlt
      obtain ⟨y, hy⟩ : ∃ y, R[k]? = some y := ⟨_, List.getElem?_eq_getElem hk1⟩
      obtain ⟨g, rfl, y0, y1, y2⟩ := own_item ho HN.out.symm hy
      obtain ⟨ay, ny, cy, hyv⟩ := h.slices y (List.mem_of_getElem? hy)
      have y0 := hm.cell y0 (fun h => h)
      have y1 := hm.cell y1 (fun h => h)
      have y2 := hm.cell y2 (fun h => h)
      have b2 := (hbb.mod hm (fun h => h)).cell 2
      simp at b2
      rw [hyv] at y2
      obtain ⟨yt, hyt⟩ : ∃ yt, yt = y.t := ⟨_, rfl⟩
      obtain ⟨yi, hyi⟩ : ∃ yi, yi = y.id := ⟨_, rfl⟩
      rw [← hyt] at y0
      rw [← hyi] at y1
      have b2' := ((Mod.refl NoB wr).alloc (.cells #[Value.int .u32 yt, .int .u16 yi, .slice ay ny cy] 53)).cell b2 (fun h => h)
      obtain ⟨D, hD⟩ : ∃ D, D = (yi == id) := ⟨_, rfl⟩
      have HY := Lib.hid hy
      have HD := Lib.hid hD
      have HYI := Lib.hid hyi
      clear hy hyv hyt hyi hD
      cases D with
      | true =>
        have hdd : (yi == id) = true := HD.out.symm
        go_wp2_with fail
        go_roundw
        case rel => exact ⟨k + 1, (k : Int), by omega, by go_num, rfl, .inr ⟨k, y, rfl, by omega, HY.out, by rw [← HYI.out]; exact HD.out.symm⟩, hm.alloc _⟩
        case measure => simp [intOf]; omega
      | false =>
        have hdd : (yi == id) = false := HD.out.symm
        go_wp2_with fail
        go_roundw
        case rel =>
          refine ⟨k + 1, zz, by omega, by go_num, rfl, ?_, hm.alloc _⟩
          rcases HAT.out with ⟨e, hall⟩ | ⟨j, y', e, hj, hy', hid⟩
          · refine .inl ⟨e, fun j y' hj hy' => ?_⟩
            by_cases h : j < k
            · exact hall j y' h hy'
            · obtain rfl : j = k := by omega
              rw [HY.out] at hy'
              cases hy'
              rw [← HYI.out]; exact HD.out.symm
          · exact .inr ⟨j, y', e, by omega, hy', hid⟩
        case measure => simp [intOf]; omega
    · obtain rfl : n = k := by omega
      have h1 := h0.nob hm
      have h01 := hm0.trans hm
      have hbw := hbb.mod hm (fun h => h)
      have p0 := h1.blk.cell 0
      have p1 := h1.blk.cell 1
      have f0 := h1.blk.frozen 0
      have f1 := h1.blk.frozen 1
      have b0 := hbw.cell 0
      have b1 := hbw.cell 1
      have b2 := hbw.cell 2
      have b3 := hbw.cell 3
      have b4 := hbw.cell 4
      have b5 := hbw.cell 5
      simp at p0 p1 b0 b1 b2 b3 b4 b5
      rw [← HN.out] at p0
      obtain ⟨d0, d1⟩ := hd
      have hown := h1.own
      rw [← HN.out] at hown
      have hvx : ¬ (Value.slice a n c).ownBlock = some x := own_ne_blk hown h1.blk (by decide)
      clear hlt hk e0 ho
      subst hoff
      obtain ⟨wo, rfl⟩ : ∃ wo : World, wo = wr := ⟨_, rfl⟩
      go_wp2_with fail
      clear hd4
      go_loopw [9, 10, 105] (fun q r i wr => ∃ (k m1 m2 : Nat), k ≤ n ∧ i = .int .i64 k ∧ Lens R t k m1 m2 ∧ wr.ownsRow wo.heap.size 22 1 q m1 (dueVals ((R.take k).filter (early t))) ∧ wr.ownsRow wo.heap.size 53 3 r m2 (flat ((R.take k).filter (fun y => !(early t y)))) ∧ Mod NoB wo wr) (fun _ _ i _ => n - (intOf i).toNat)
      case atStart => exact ⟨0, 0, 0, Nat.zero_le _, rfl, ⟨rfl, rfl⟩, World.ownsRow_nil _ _ _ _, World.ownsRow_nil _ _ _ _, Mod.refl _ _⟩
      case round =>
        obtain ⟨k, m1, m2, hk, rfl, ⟨hm1, hm2⟩, hq, hr, hm⟩ := hrel
        have hm1k : m1 ≤ k := by rw [hm1]; exact Nat.le_trans (List.length_filter_le _ _) (by simp; omega)
        have hm2k : m2 ≤ k := by rw [hm2]; exact Nat.le_trans (List.length_filter_le _ _) (by simp; omega)
        by_cases hlt : k < n
        · have hkR : k < R.length := by rw [← HN.out]; exact hlt
          obtain ⟨y, hy⟩ : ∃ y, R[k]? = some y := ⟨_, List.getElem?_eq_getElem hkR⟩
          obtain ⟨ay, ny, cy, hyv⟩ := h.slices y (List.mem_of_getElem? hy)
          obtain ⟨g, rfl, y0, y1, y2⟩ := own_item hown HN.out.symm hy
          have hf1 := filter_take_succ (early t) R k y hy
          have hf2 := filter_take_succ (fun y => !(early t y)) R k y hy
          obtain ⟨yt, hyt⟩ : ∃ yt, yt = y.t := ⟨_, rfl⟩
          obtain ⟨yi, hyi⟩ : ∃ yi, yi = y.id := ⟨_, rfl⟩
          have hyc : y.cells = [.int .u32 yt, .int .u16 yi, .slice ay ny cy] := by rw [hyt, hyi, ← hyv]; rfl
          rw [← hyt] at y0
          rw [← hyi] at y1
          rw [hyv] at y2
          have y0 := hm.cell y0 (fun h => h)
          have y1 := hm.cell y1 (fun h => h)
          have y2 := hm.cell y2 (fun h => h)
          have b1 := hm.cell b1 (fun h => h)
          have hmW : Mod NoB wr (wr.alloc (.cells #[Value.int .u32 yt, .int .u16 yi, .slice ay ny cy] 53)) := (Mod.refl _ _).alloc _
          have b1' := hmW.cell b1 (fun h => h)
          have hbase := hm.size
          have hbase2 := h01.size
          by_cases hle : yt ≤ t
          · have he : early t y = true := by unfold early; rw [← hyt]; simpa using hle
            simp only [he, if_true, Bool.not_true, Bool.false_eq_true, if_false, List.append_nil] at hf1 hf2
            obtain ⟨W, hW⟩ : ∃ W, W = (wr.alloc (.cells #[Value.int .u32 yt, .int .u16 yi, .slice ay ny cy] 53)).alloc (.cells #[Value.slice ay ny cy] 22) := ⟨_, rfl⟩
            have hmW2 : Mod NoB wr W := by rw [hW]; exact hmW.alloc _
            have hbW : Blk W (wr.heap.size + 1) 22 [Value.slice ay ny cy] := by rw [hW]; have := Blk.new (wr.alloc (.cells #[Value.int .u32 yt, .int .u16 yi, .slice ay ny cy] 53)) 22 [Value.slice ay ny cy]; simpa using this
            have hq2 := hmW2.own hq (fun _ _ h => h)
            have hr2 := hmW2.own hr (fun _ _ h => h)
            obtain ⟨v', w3, hrun, hown3, hm3, hb3, hn3⟩ := append_own (P := Try.prog) Try.elem22 hq2 (m := 1) (by simp) (hbW.arr 0) (fun u hu => by simp at hu; subst hu; rfl) (by unfold maxLen; omega) (by omega) (by have := hmW2.size; omega)
            have hr3 := hm3.own hr2 (fun g hg e => own_ne_own hr2 hq2 (by decide) g hg e)
            have hmF : Mod NoB wo w3 := hm.trans (hmW2) |>.trans' hm3 (fun k' hk' e => by have := (hq.lt k' e).1; omega)
            subst hW
            have HF1 := Lib.hid hf1
            have HF2 := Lib.hid hf2
            have HM1 := Lib.hid hm1
            have HM2 := Lib.hid hm2
            have HYV := Lib.hid hyv
            clear hf1 hf2 hm1 hm2 hyv hyt hyi hyc hy
            go_wp2_with (at_builtin; refine wpList_of_run rfl (exec_builtin2 (b := .append) (fun _ _ _ _ => rfl) _ _ 31 31 rfl rfl rfl (hrun _ _)) ?_)
            go_roundw
            case rel =>
              refine ⟨k + 1, m1 + 1, m2, by omega, by go_num, ⟨by rw [HF1.out, List.length_append, ← HM1.out]; rfl, by rw [HF2.out]; exact HM2.out⟩, ?_, by rw [HF2.out]; exact hr3, hmF⟩
              rw [HF1.out, dueVals, List.map_append, show List.map It.v [y] = [.slice ay ny cy] from by rw [← HYV.out]; rfl]
              exact hown3
            case measure => simp [intOf]; omega
          · have he : early t y = false := by unfold early; rw [← hyt]; simpa using hle
            simp only [he, if_true, Bool.not_false, Bool.false_eq_true, if_false, List.append_nil] at hf1 hf2
            have hbx := Blk.new wr 53 [Value.int .u32 yt, .int .u16 yi, .slice ay ny cy]
            obtain ⟨W, hW⟩ : ∃ W, W = (wr.alloc (.cells #[Value.int .u32 yt, .int .u16 yi, .slice ay ny cy] 53)).alloc (.cells #[Value.int .u32 yt, .int .u16 yi, .slice ay ny cy] 53) := ⟨_, rfl⟩
            have hmW2 : Mod NoB wr W := by rw [hW]; exact hmW.alloc _
            have hbW : Blk W (wr.heap.size + 1) 53 [Value.int .u32 yt, .int .u16 yi, .slice ay ny cy] := by rw [hW]; have := Blk.new (wr.alloc (.cells #[Value.int .u32 yt, .int .u16 yi, .slice ay ny cy] 53)) 53 [Value.int .u32 yt, .int .u16 yi, .slice ay ny cy]; simpa using this
            have hq2 := hmW2.own hq (fun _ _ h => h)
            have hr2 := hmW2.own hr (fun _ _ h => h)
            obtain ⟨v', w3, hrun, hown3, hm3, hb3, hn3⟩ := append_own (P := Try.prog) Try.elem53 hr2 (m := 1) (by simp) (hbW.arr 0) (fun u hu => by simp at hu; rcases hu with rfl | rfl | rfl <;> rfl) (by unfold maxLen; omega) (by omega) (by have := hmW2.size; omega)
            have hq3 := hm3.own hq2 (fun g hg e => own_ne_own hq2 hr2 (by decide) g hg e)
            have hmF : Mod NoB wo w3 := hm.trans (hmW2) |>.trans' hm3 (fun k' hk' e => by have := (hr.lt k' e).1; omega)
            subst hW
            have HF1 := Lib.hid hf1
            have HF2 := Lib.hid hf2
            have HM1 := Lib.hid hm1
            have HM2 := Lib.hid hm2
            have HYC := Lib.hid hyc
            clear hf1 hf2 hm1 hm2 hyv hyt hyi hyc hy
            go_wp2_with (at_builtin; refine wpList_of_run rfl (exec_builtin2 (b := .append) (fun _ _ _ _ => rfl) _ _ 37 37 rfl rfl rfl (hrun _ _)) ?_)
            go_roundw
            case rel =>
              refine ⟨k + 1, m1, m2 + 1, by omega, by go_num, ⟨by rw [HF1.out]; exact HM1.out, by rw [HF2.out, List.length_append, ← HM2.out]; rfl⟩, by rw [HF1.out]; exact hq3, ?_, hmF⟩
              rw [HF2.out, flat_append, show flat [y] = [Value.int .u32 yt, .int .u16 yi, .slice ay ny cy] from by rw [← HYC.out]; simp [flat]]
              exact hown3
            case measure => simp [intOf]; omega
        · obtain rfl : n = k := by omega
          have hRt : R.take n = R := by rw [HN.out]; exact List.take_length
          rw [hRt] at hm1 hm2 hq hr
          obtain ⟨ra, rc, rfl⟩ := own_slice hr
          obtain ⟨qa, qc, rfl⟩ := own_slice hq
          have HM1 := Lib.hid hm1
          have HM2 := Lib.hid hm2
          have p0 := hm.cell p0 (fun h => h)
          have f0 := (h1.blk.mod hm (fun h => h)).frozen 0
          clear hm1 hm2 hRt
          go_wp2_with fail
          go_ret2
          have hset : Mod (· = x) wr (wr.setCell ⟨x, 0, none⟩ (.slice ra m2 rc)) := (Mod.refl _ _).setCell _ (fun _ => rfl)
          have hb := (h1.blk.mod hm (fun h => h)).setCell 0 (.slice ra m2 rc)
          have hall : Mod (rfoot x (.slice a R.length c)) w (wr.setCell ⟨x, 0, none⟩ (.slice ra m2 rc)) := ((h01.trans hm).mono (fun _ _ h => h.elim)).trans' hset (fun k _ e => .inl e)
          have hsz := h01.size
          have h2 := h1.nob hm
          have htc : ∀ y ∈ R, TcAt (wr.setCell ⟨x, 0, none⟩ (.slice ra m2 rc)) B y := fun y hy => (h2.tcs y hy).mod hset (fun g hg e => h2.apart (h2.tcs y hy) g hg (.inl e))
          have hbw : B ≤ w.heap.size := by have := h.low; have := h.blk.lt; omega
          refine ⟨_, _, rfl, ?_, ⟨hb, ?_, fun y hy => htc y ((List.mem_filter.1 hy).1), h.low, Nat.le_trans (List.length_filter_le _ _) h.few⟩, htc, hall, ?_⟩
          · rw [← HM1.out]
            have := hset.own hq (fun g hg e => by have := (hq.lt g hg).1; have := h1.blk.lt; omega)
            exact own_mono this hsz
          · rw [← HM2.out]
            have := hset.own hr (fun g hg e => by have := (hr.lt g hg).1; have := h1.blk.lt; omega)
            exact own_mono this (by omega)
          · intro g hg
            have := (hr.lt g hg).1
            omega

set_option maxHeartbeats 4000000 in
set_option maxRecDepth 20000 in
theorem ref_delete_ok (h : RefAt B w x v R off) (d t id : Int) (ta : Option Addr) (tn tk : Nat) (by_ : Int) (on : Bool) (hd : 0 ≤ d ∧ d ≤ 255) (hd3 : d % 8 = 3) (hin : R.any (fun y => y.id == id) = true) (huniq : (R.map It.id).Nodup) :
    Calls Try.prog 12 #[.pointer (some ⟨x, 0, none⟩), .agg #[.int .u8 d, .int .u32 t, .int .u16 id, .slice ta tn tk, .int .i32 by_, .bool on]] w fun e w' => e = .returned (.tuple #[.int .i64 0, .slice none 0 0]) ∧ (∃ v', RefAt B w' x v' (R.filter (fun y => !(y.id == id))) off ∧ (∀ g, v'.ownBlock = some g → w.heap.size ≤ g)) ∧ Mod (rfoot x v) w w' := by
  obtain ⟨a, c, rfl⟩ := own_slice h.own
  obtain ⟨n, hn⟩ : ∃ n, n = R.length := ⟨_, rfl⟩
  obtain ⟨W0, hW0⟩ : ∃ W0, W0 = w.alloc (.cells [Value.int .u8 d, .int .u32 t, .int .u16 id, .slice ta tn tk, .int .i32 by_, .bool on].toArray 41) := ⟨_, rfl⟩
  have hm0 : Mod NoB w W0 := by rw [hW0]; exact (Mod.refl _ _).alloc _
  have hbb : Blk W0 w.heap.size 41 [.int .u8 d, .int .u32 t, .int .u16 id, .slice ta tn tk, .int .i32 by_, .bool on] := by rw [hW0]; exact Blk.new w 41 _
  have h0 := h.nob hm0
  have e0 := h0.blk.cell 0
  simp at e0
  rw [← hn] at e0
  have ho := h0.own
  rw [← hn] at ho
  have hn32 : n ≤ 32 := by rw [hn]; exact h.few
  have HN := Lib.hid hn
  have HW0 := Lib.hid hW0
  clear hn hW0
  go_enter Try.func12, Try.ntmps12
  have e0' : (w.alloc (.cells #[Value.int .u8 d, .int .u32 t, .int .u16 id, .slice ta tn tk, .int .i32 by_, .bool on] 41)).cell? ⟨x, 0, none⟩ = some (.slice a n c) := by rw [HW0.out] at e0; exact e0
  go_wp2_with fail
  rw [show w.alloc (.cells #[Value.int .u8 d, .int .u32 t, .int .u16 id, .slice ta tn tk, .int .i32 by_, .bool on] 41) = W0 from HW0.out.symm]
  clear e0'
  go_loopw [6, 22] (fun z i wr => ∃ (k : Nat) (zz : Int), k ≤ n ∧ i = .int .i64 k ∧ z = .int .i64 zz ∧ AtOk R id k zz ∧ Mod NoB W0 wr) (fun _ i _ => n - (intOf i).toNat)
  case atStart => exact ⟨0, -1, Nat.zero_le _, rfl, rfl, .inl ⟨rfl, fun j y hj => by omega⟩, Mod.refl _ _⟩
  case round =>
    obtain ⟨k, zz, hk, rfl, rfl, hat, hm⟩ := hrel
    have HAT := Lib.hid hat
    clear hat
    by_cases hlt : k < n
    · have hk1 : k < R.length := by rw [← HN.out]; exact hlt
      obtain ⟨y, hy⟩ : ∃ y, R[k]? = some y := ⟨_, List.getElem?_eq_getElem hk1⟩
      obtain ⟨g, rfl, y0, y1, y2⟩ := own_item ho HN.out.symm hy
      obtain ⟨ay, ny, cy, hyv⟩ := h.slices y (List.mem_of_getElem? hy)
      have y0 := hm.cell y0 (fun h => h)
      have y1 := hm.cell y1 (fun h => h)
      have y2 := hm.cell y2 (fun h => h)
      have b2 := (hbb.mod hm (fun h => h)).cell 2
      simp at b2
      rw [hyv] at y2
      obtain ⟨yt, hyt⟩ : ∃ yt, yt = y.t := ⟨_, rfl⟩
      obtain ⟨yi, hyi⟩ : ∃ yi, yi = y.id := ⟨_, rfl⟩
      rw [← hyt] at y0
      rw [← hyi] at y1
      have b2' := ((Mod.refl NoB wr).alloc (.cells #[Value.int .u32 yt, .int .u16 yi, .slice ay ny cy] 53)).cell b2 (fun h => h)
      obtain ⟨D, hD⟩ : ∃ D, D = (yi == id) := ⟨_, rfl⟩
      have HY := Lib.hid hy
      have HD := Lib.hid hD
      have HYI := Lib.hid hyi
      clear hy hyv hyt hyi hD
      cases D with
      | true =>
        have hdd : (yi == id) = true := HD.out.symm
        go_wp2_with fail
        go_roundw
        case rel => exact ⟨k + 1, (k : Int), by omega, by go_num, rfl, .inr ⟨k, y, rfl, by omega, HY.out, by rw [← HYI.out]; exact HD.out.symm⟩, hm.alloc _⟩
        case measure => simp [intOf]; omega
      | false =>
        have hdd : (yi == id) = false := HD.out.symm
        go_wp2_with fail
        go_roundw
        case rel =>
          refine ⟨k + 1, zz, by omega, by go_num, rfl, ?_, hm.alloc _⟩
          rcases HAT.out with ⟨e, hall⟩ | ⟨j, y', e, hj, hy', hid⟩
          · refine .inl ⟨e, fun j y' hj hy' => ?_⟩
            by_cases h : j < k
            · exact hall j y' h hy'
            · obtain rfl : j = k := by omega
              rw [HY.out] at hy'
              cases hy'
              rw [← HYI.out]; exact HD.out.symm
          · exact .inr ⟨j, y', e, by omega, hy', hid⟩
        case measure => simp [intOf]; omega
    · obtain rfl : n = k := by omega
      have h1 := h0.nob hm
      have h01 := hm0.trans hm
      have hbw := hbb.mod hm (fun h => h)
      have p0 := h1.blk.cell 0
      have p1 := h1.blk.cell 1
      have f0 := h1.blk.frozen 0
      have f1 := h1.blk.frozen 1
      have b0 := hbw.cell 0
      have b1 := hbw.cell 1
      have b2 := hbw.cell 2
      have b3 := hbw.cell 3
      have b4 := hbw.cell 4
      have b5 := hbw.cell 5
      simp at p0 p1 b0 b1 b2 b3 b4 b5
      rw [← HN.out] at p0
      obtain ⟨d0, d1⟩ := hd
      have hown := h1.own
      rw [← HN.out] at hown
      have hvx : ¬ (Value.slice a n c).ownBlock = some x := own_ne_blk hown h1.blk (by decide)
      clear hlt hk e0 ho
      obtain ⟨j, y, rfl, hj, hy, hid⟩ : ∃ (j : Nat) (y : It), zz = (j : Int) ∧ j < n ∧ R[j]? = some y ∧ (y.id == id) = true := by
        rcases HAT.out with ⟨e, hall⟩ | h
        · obtain ⟨y, hy, hid⟩ := List.any_eq_true.1 hin
          obtain ⟨j, hj⟩ := List.getElem?_of_mem hy
          have := hall j y (by have := (List.getElem?_eq_some_iff.1 hj).1; have := HN.out; omega) hj
          rw [this] at hid
          cases hid
        · exact h
      have hflt : R.filter (fun y => !(y.id == id)) = R.take j ++ R.drop (j + 1) := filter_del R j y id hy hid huniq
      have HFLT := Lib.hid hflt
      clear hflt hin huniq HAT hid
      obtain ⟨g, rfl⟩ : ∃ g, a = some ⟨g, 0, none⟩ := by
        obtain ⟨g, e, -⟩ := own_item hown HN.out.symm hy
        exact ⟨g, e⟩
      clear hy
      obtain ⟨-, hnc, hcm⟩ := own_len hown
      unfold maxLen at hcm
      obtain ⟨l, hlb, hll, hlt, -, -, -⟩ := own_blk hown
      have hones : Ones (flat R) := h.ones
      obtain ⟨A, hA, hAr⟩ : ∃ A : Addr, (if c = j + 1 then some (⟨g, 0, none⟩ : Addr) else some ⟨g, (j + 1) * 3, none⟩) = some A ∧ ∀ w', Mod NoB wr w' → Arr w' A (flat (R.drop (j + 1))) := by
        by_cases h : c = j + 1
        · refine ⟨⟨g, 0, none⟩, by simp [h], fun w' _ => ?_⟩
          have : R.drop (j + 1) = [] := List.drop_eq_nil_of_le (by have := HN.out; omega)
          rw [this]
          intro k u hu
          simp [flat] at hu
        · refine ⟨⟨g, (j + 1) * 3, none⟩, by simp [h], fun w' hm => ?_⟩
          have := (hlb.mod hm (fun h => h)).arr_take ((j + 1) * 3) (n * 3 - (j + 1) * 3)
          rw [← List.drop_take, hlt, flat_drop] at this
          exact this
      have hAl : ∀ w', Mod NoB wr w' → Arr w' ⟨g, 0, none⟩ (flat (R.take j)) := fun w' hm => by
        have := (hlb.mod hm (fun h => h)).arr_take 0 (j * 3)
        rw [← flat_take, ← hlt, List.take_take, Nat.min_eq_left (by omega)]
        exact this
      obtain ⟨W1, hW1⟩ : ∃ W1, W1 = (wr.alloc (.cells #[] 53)).drew := ⟨_, rfl⟩
      have hm1 : Mod NoB wr W1 := by rw [hW1]; exact ((Mod.refl _ wr).alloc _).drew
      have ho1 : W1.ownsRow wr.heap.size 53 3 (.slice (some ⟨wr.heap.size, 0, none⟩) 0 0) 0 [] := by rw [hW1]; exact World.ownsRow_made wr #[] 0 (Nat.le_refl _) (by unfold maxLen; omega) rfl
      have hb1 : wr.heap.size ≤ W1.heap.size := hm1.size
      obtain ⟨v1, W2, hrun1, hown1, hmA, hbA, hnA⟩ := append_own (P := Try.prog) Try.elem53 ho1 (m := j) (by rw [flat_length]; simp; have := HN.out; omega) (hAl W1 hm1) (by rw [← flat_take]; exact hones.take _) (by unfold maxLen; omega) (by omega) hb1
      have hm2 : Mod NoB wr W2 := hm1.trans' hmA (fun k hk e => by simp [Value.ownBlock] at e; omega)
      obtain ⟨a1, c1, rfl⟩ := own_slice hown1
      obtain ⟨v2, W3, hrun2, hown2, hmB, hbB, hnB⟩ := append_own (P := Try.prog) Try.elem53 hown1 (m := n - (j + 1)) (by rw [flat_length, List.length_drop, ← HN.out]) (hAr W2 hm2) (by rw [← flat_drop]; exact hones.drop _) (by unfold maxLen; omega) (by omega) hm2.size
      have hm3 : Mod NoB wr W3 := hm2.trans' hmB (fun k hk e => by have := (hown1.lt k e).1; omega)
      obtain ⟨a2, c2, rfl⟩ := own_slice hown2
      rw [List.nil_append] at hown2
      simp only [Nat.zero_add] at hrun1 hrun2 hown2
      have p1' := hm1.cell p0 (fun h => h)
      have p2' := hm2.cell p0 (fun h => h)
      have p3' := hm3.cell p0 (fun h => h)
      have f3 := (h1.blk.mod hm3 (fun h => h)).frozen 0
      have hzz' : ¬ (j : Int) < 0 := by omega
      have hjw : IntKind.i64.wrap ((j : Int) + 1) = (j : Int) + 1 := by rw [IntKind.wrap_i64]; omega
      have hjc : j ≤ c := by omega
      have hjn : j + 1 ≤ n := by omega
      have hjn2 : (j : Int) + 1 ≤ (n : Int) := by omega
      have hj02 : (0 : Int) ≤ (j : Int) + 1 := by omega
      have hjt : ((j : Int) + 1).toNat = j + 1 := by omega
      have hlen : j + (n - (j + 1)) = (R.take j ++ R.drop (j + 1)).length := by simp; have := HN.out; omega
      have hdone : (∃ v', RefAt B (W3.setCell ⟨x, 0, none⟩ (.slice a2 (j + (n - (j + 1))) c2)) x v' (R.take j ++ R.drop (j + 1)) off ∧ (∀ g, v'.ownBlock = some g → w.heap.size ≤ g)) ∧ Mod (rfoot x (.slice (some ⟨g, 0, none⟩) R.length c)) w (W3.setCell ⟨x, 0, none⟩ (.slice a2 (j + (n - (j + 1))) c2)) := by
        have hset : Mod (· = x) W3 (W3.setCell ⟨x, 0, none⟩ (.slice a2 (j + (n - (j + 1))) c2)) := (Mod.refl _ _).setCell _ (fun _ => rfl)
        have h3 := h1.nob hm3
        have hb := h3.blk.setCell 0 (.slice a2 (j + (n - (j + 1))) c2)
        have hsz := h01.size
        have hBw : B ≤ w.heap.size := by have := h.low; have := h.blk.lt; omega
        have hxw := h.blk.lt
        refine ⟨⟨_, ⟨hb, ?_, fun y hy => ?_, h.low, by rw [← hlen]; omega⟩, fun g' hg' => by have := (hown2.lt g' hg').1; omega⟩, ((h01.trans hm3).mono (fun _ _ h => h.elim)).trans' hset (fun k _ e => .inl e)⟩
        · rw [← flat_append] at hown2
          rw [← hlen]
          exact own_mono (hset.own hown2 (fun g' hg' e => by have := (hown2.lt g' hg').1; omega)) (by omega)
        · have hyR : y ∈ R := by
            rcases List.mem_append.1 hy with h | h
            · exact List.mem_of_mem_take h
            · exact List.mem_of_mem_drop h
          exact (h3.tcs y hyR).mod hset (fun g' hg' e => h3.apart (h3.tcs y hyR) g' hg' (.inl e))
      have HDONE := Lib.hid hdone
      clear hdone hlen
      subst hW1
      go_wp2_with fail
      go_region_law (first
        | refine step_of_run rfl (exec_builtin2 (b := .append) (fun _ _ _ _ => rfl) _ _ 37 37 rfl (by simp [Act.eval, Act.put]) (by simp [Act.eval, Act.put]) (hrun1 _ c)) ?_
        | refine step_of_run rfl (exec_builtin2 (b := .append) (fun _ _ _ _ => rfl) _ _ 37 37 rfl (by simp [Act.eval, Act.put]) (by simp [Act.eval, Act.put, hA]) (hrun2 _ (c - (j + 1)))) ?_)
      all_goals go_wp2_with fail
      all_goals go_ret2
      all_goals exact ⟨rfl, by rw [HFLT.out]; exact HDONE.out.1, HDONE.out.2⟩
end
end Go.Proofs.Ytelfhcojpigkoaa
