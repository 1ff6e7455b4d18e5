/- The reference's plan: Do. Printed by wip/gen/refdo.py. -/
import Derived.Test.YtelfhcojpigkoaaRef2
namespace Go.Proofs.Ytelfhcojpigkoaa
open Go Go.RowKit

structure RefAt (B : Nat) (w : World) (x : Nat) (v : Value) (R : List It) (off : Bool) : Prop where
  blk : Blk w x 39 [v, .bool off]
  own : w.ownsRow B 53 3 v R.length (flat R)
  tcs : ∀ y ∈ R, TcAt w B y
  low : B ≤ x
  few : R.length ≤ 32
def rfoot (x : Nat) (v : Value) : Nat → Prop := fun k => k = x ∨ v.ownBlock = some k
section
variable {B : Nat} {w w' : World} {x : Nat} {v : Value} {R : List It} {off : Bool}
theorem RefAt.apart (h : RefAt B w x v R off) {y : It} (hy : TcAt w B y) (g : Nat) (hg : y.v.ownBlock = some g) : ¬ rfoot x v g := by
  rintro (rfl | h')
  · exact own_ne_blk hy.1 h.blk (by decide) hg
  · exact own_ne_own hy.1 h.own (by decide) g hg h'
theorem RefAt.vx (h : RefAt B w x v R off) : ¬ v.ownBlock = some x := own_ne_blk h.own h.blk (by decide)
theorem RefAt.mod {S : Nat → Prop} (h : RefAt B w x v R off) (hm : Mod S w w') (hx : ¬ S x) (hv : ∀ g, v.ownBlock = some g → ¬ S g) (ht : ∀ y ∈ R, ∀ g, y.v.ownBlock = some g → ¬ S g) : RefAt B w' x v R off :=
  ⟨h.blk.mod hm hx, hm.own h.own hv, fun y hy => (h.tcs y hy).mod hm (ht y hy), h.low, h.few⟩
theorem RefAt.nob (h : RefAt B w x v R off) (hm : Mod NoB w w') : RefAt B w' x v R off := h.mod hm (fun h => h) (fun _ _ h => h) (fun _ _ _ _ h => h)
theorem RefAt.slices (h : RefAt B w x v R off) (y : It) (hy : y ∈ R) : ∃ a n c, y.v = .slice a n c := by
  obtain ⟨a, c, e⟩ := own_slice (h.tcs y hy).1
  exact ⟨a, _, c, e⟩
theorem RefAt.ones (h : RefAt B w x v R off) : Ones (flat R) := flat_ones fun y hy => by obtain ⟨a, n, c, e⟩ := h.slices y hy; rw [e]; rfl

/-- The last one's place, or none. -/
def AtOk (R : List It) (id : Int) (k : Nat) (z : Int) : Prop := (z = -1 ∧ ∀ (j : Nat) (y : It), j < k → R[j]? = some y → (y.id == id) = false) ∨ ∃ (j : Nat) (y : It), z = (j : Int) ∧ j < k ∧ R[j]? = some y ∧ (y.id == id) = true

set_option maxHeartbeats 4000000 in
set_option maxRecDepth 20000 in
theorem ref_enable (h : RefAt B w x v R off) (d t id : Int) (ta : Option Addr) (tn tk : Nat) (by_ : Int) (on : Bool) (hd : 0 ≤ d ∧ d ≤ 255) (hd6 : d % 8 = 6) :
    Calls Try.prog 12 #[.pointer (some ⟨x, 0, none⟩), .agg #[.int .u8 d, .int .u32 t, .int .u16 id, .slice ta tn tk, .int .i32 by_, .bool on]] w fun e w' => e = .returned (.tuple #[.int .i64 0, .slice none 0 0]) ∧ RefAt B w' x v R (!on) ∧ Mod (rfoot x v) w w' := by
  obtain ⟨a, c, rfl⟩ := own_slice h.own
  obtain ⟨n, hn⟩ : ∃ n, n = R.length := ⟨_, rfl⟩
  obtain ⟨W0, hW0⟩ : ∃ W0, W0 = w.alloc (.cells [Value.int .u8 d, .int .u32 t, .int .u16 id, .slice ta tn tk, .int .i32 by_, .bool on].toArray 41) := ⟨_, rfl⟩
  have hm0 : Mod NoB w W0 := by rw [hW0]; exact (Mod.refl _ _).alloc _
  have hbb : Blk W0 w.heap.size 41 [.int .u8 d, .int .u32 t, .int .u16 id, .slice ta tn tk, .int .i32 by_, .bool on] := by rw [hW0]; exact Blk.new w 41 _
  have h0 := h.nob hm0
  have e0 := h0.blk.cell 0
  simp at e0
  rw [← hn] at e0
  have ho := h0.own
  rw [← hn] at ho
  have hn32 : n ≤ 32 := by rw [hn]; exact h.few
  have HN := Lib.hid hn
  have HW0 := Lib.hid hW0
  clear hn hW0
  go_enter Try.func12, Try.ntmps12
  have e0' : (w.alloc (.cells #[Value.int .u8 d, .int .u32 t, .int .u16 id, .slice ta tn tk, .int .i32 by_, .bool on] 41)).cell? ⟨x, 0, none⟩ = some (.slice a n c) := by rw [HW0.out] at e0; exact e0
  go_wp2_with fail
  rw [show w.alloc (.cells #[Value.int .u8 d, .int .u32 t, .int .u16 id, .slice ta tn tk, .int .i32 by_, .bool on] 41) = W0 from HW0.out.symm]
  clear e0'
  go_loopw [6, 22] (fun z i wr => ∃ (k : Nat) (zz : Int), k ≤ n ∧ i = .int .i64 k ∧ z = .int .i64 zz ∧ AtOk R id k zz ∧ Mod NoB W0 wr) (fun _ i _ => n - (intOf i).toNat)
  case atStart => exact ⟨0, -1, Nat.zero_le _, rfl, rfl, .inl ⟨rfl, fun j y hj => by omega⟩, Mod.refl _ _⟩
  case round =>
    obtain ⟨k, zz, hk, rfl, rfl, hat, hm⟩ := hrel
    have HAT := Lib.hid hat
    clear hat
    by_cases hlt : k < n
    · have hk1 : k < R.length := by rw [← HN.out]; exact hlt
      obtain ⟨y, hy⟩ : ∃ y, R[k]? = some y := ⟨_, List.getElem?_eq_getElem hk1⟩
      obtain ⟨g, rfl, y0, y1, y2⟩ := own_item ho HN.out.symm hy
      obtain ⟨ay, ny, cy, hyv⟩ := h.slices y (List.mem_of_getElem? hy)
      have y0 := hm.cell y0 (fun h => h)
      have y1 := hm.cell y1 (fun h => h)
      have y2 := hm.cell y2 (fun h => h)
      have b2 := (hbb.mod hm (fun h => h)).cell 2
      simp at b2
      rw [hyv] at y2
      obtain ⟨yt, hyt⟩ : ∃ yt, yt = y.t := ⟨_, rfl⟩
      obtain ⟨yi, hyi⟩ : ∃ yi, yi = y.id := ⟨_, rfl⟩
      rw [← hyt] at y0
      rw [← hyi] at y1
      have b2' := ((Mod.refl NoB wr).alloc (.cells #[Value.int .u32 yt, .int .u16 yi, .slice ay ny cy] 53)).cell b2 (fun h => h)
      obtain ⟨D, hD⟩ : ∃ D, D = (yi == id) := ⟨_, rfl⟩
      have HY := Lib.hid hy
      have HD := Lib.hid hD
      have HYI := Lib.hid hyi
      clear hy hyv hyt hyi hD
      cases D with
      | true =>
        have hdd : (yi == id) = true := HD.out.symm
        go_wp2_with fail
        go_roundw
        case rel => exact ⟨k + 1, (k : Int), by omega, by go_num, rfl, .inr ⟨k, y, rfl, by omega, HY.out, by rw [← HYI.out]; exact HD.out.symm⟩, hm.alloc _⟩
        case measure => simp [intOf]; omega
      | false =>
        have hdd : (yi == id) = false := HD.out.symm
        go_wp2_with fail
        go_roundw
        case rel =>
          refine ⟨k + 1, zz, by omega, by go_num, rfl, ?_, hm.alloc _⟩
          rcases HAT.out with ⟨e, hall⟩ | ⟨j, y', e, hj, hy', hid⟩
          · refine .inl ⟨e, fun j y' hj hy' => ?_⟩
            by_cases h : j < k
            · exact hall j y' h hy'
            · obtain rfl : j = k := by omega
              rw [HY.out] at hy'
              cases hy'
              rw [← HYI.out]; exact HD.out.symm
          · exact .inr ⟨j, y', e, by omega, hy', hid⟩
        case measure => simp [intOf]; omega
    · obtain rfl : n = k := by omega
      have h1 := h0.nob hm
      have h01 := hm0.trans hm
      have hbw := hbb.mod hm (fun h => h)
      have p0 := h1.blk.cell 0
      have p1 := h1.blk.cell 1
      have f0 := h1.blk.frozen 0
      have f1 := h1.blk.frozen 1
      have b0 := hbw.cell 0
      have b1 := hbw.cell 1
      have b2 := hbw.cell 2
      have b3 := hbw.cell 3
      have b4 := hbw.cell 4
      have b5 := hbw.cell 5
      simp at p0 p1 b0 b1 b2 b3 b4 b5
      rw [← HN.out] at p0
      obtain ⟨d0, d1⟩ := hd
      have hown := h1.own
      rw [← HN.out] at hown
      have hvx : ¬ (Value.slice a n c).ownBlock = some x := own_ne_blk hown h1.blk (by decide)
      clear hlt hk e0 ho
      go_wp2_with fail
      go_ret2
      have hset : Mod (· = x) wr (wr.setCell ⟨x, 1, none⟩ (.bool (!on))) := (Mod.refl _ _).setCell _ (fun _ => rfl)
      have hb := h1.blk.setCell 1 (.bool (!on))
      have hall : Mod (rfoot x (.slice a R.length c)) w (wr.setCell ⟨x, 1, none⟩ (.bool (!on))) := (h01.mono (fun _ _ h => h.elim)).trans' hset (fun k _ e => .inl e)
      exact ⟨rfl, ⟨hb, hset.own h1.own (fun g hg e => h.vx (by rw [← e]; exact hg)), fun y hy => (h1.tcs y hy).mod hset (fun g hg e => h1.apart (h1.tcs y hy) g hg (.inl e)), h.low, h.few⟩, hall⟩

set_option maxHeartbeats 4000000 in
set_option maxRecDepth 20000 in
theorem ref_clear (h : RefAt B w x v R off) (d t id : Int) (ta : Option Addr) (tn tk : Nat) (by_ : Int) (on : Bool) (hd : 0 ≤ d ∧ d ≤ 255) (hd7 : d % 8 = 7) :
    Calls Try.prog 12 #[.pointer (some ⟨x, 0, none⟩), .agg #[.int .u8 d, .int .u32 t, .int .u16 id, .slice ta tn tk, .int .i32 by_, .bool on]] w fun e w' => e = .returned (.tuple #[.int .i64 R.length, .slice none 0 0]) ∧ RefAt B w' x (.slice none 0 0) [] off ∧ Mod (rfoot x v) w w' := by
  obtain ⟨a, c, rfl⟩ := own_slice h.own
  obtain ⟨n, hn⟩ : ∃ n, n = R.length := ⟨_, rfl⟩
  obtain ⟨W0, hW0⟩ : ∃ W0, W0 = w.alloc (.cells [Value.int .u8 d, .int .u32 t, .int .u16 id, .slice ta tn tk, .int .i32 by_, .bool on].toArray 41) := ⟨_, rfl⟩
  have hm0 : Mod NoB w W0 := by rw [hW0]; exact (Mod.refl _ _).alloc _
  have hbb : Blk W0 w.heap.size 41 [.int .u8 d, .int .u32 t, .int .u16 id, .slice ta tn tk, .int .i32 by_, .bool on] := by rw [hW0]; exact Blk.new w 41 _
  have h0 := h.nob hm0
  have e0 := h0.blk.cell 0
  simp at e0
  rw [← hn] at e0
  have ho := h0.own
  rw [← hn] at ho
  have hn32 : n ≤ 32 := by rw [hn]; exact h.few
  have HN := Lib.hid hn
  have HW0 := Lib.hid hW0
  clear hn hW0
  go_enter Try.func12, Try.ntmps12
  have e0' : (w.alloc (.cells #[Value.int .u8 d, .int .u32 t, .int .u16 id, .slice ta tn tk, .int .i32 by_, .bool on] 41)).cell? ⟨x, 0, none⟩ = some (.slice a n c) := by rw [HW0.out] at e0; exact e0
  go_wp2_with fail
  rw [show w.alloc (.cells #[Value.int .u8 d, .int .u32 t, .int .u16 id, .slice ta tn tk, .int .i32 by_, .bool on] 41) = W0 from HW0.out.symm]
  clear e0'
  go_loopw [6, 22] (fun z i wr => ∃ (k : Nat) (zz : Int), k ≤ n ∧ i = .int .i64 k ∧ z = .int .i64 zz ∧ AtOk R id k zz ∧ Mod NoB W0 wr) (fun _ i _ => n - (intOf i).toNat)
  case atStart => exact ⟨0, -1, Nat.zero_le _, rfl, rfl, .inl ⟨rfl, fun j y hj => by omega⟩, Mod.refl _ _⟩
  case round =>
    obtain ⟨k, zz, hk, rfl, rfl, hat, hm⟩ := hrel
    have HAT := Lib.hid hat
    clear hat
    by_cases hlt : k < n
    · have hk1 : k < R.length := by rw [← HN.out]; exact hlt
      obtain ⟨y, hy⟩ : ∃ y, R[k]? = some y := ⟨_, List.getElem?_eq_getElem hk1⟩
      obtain ⟨g, rfl, y0, y1, y2⟩ := own_item ho HN.out.symm hy
      obtain ⟨ay, ny, cy, hyv⟩ := h.slices y (List.mem_of_getElem? hy)
      have y0 := hm.cell y0 (fun h => h)
      have y1 := hm.cell y1 (fun h => h)
      have y2 := hm.cell y2 (fun h => h)
      have b2 := (hbb.mod hm (fun h => h)).cell 2
      simp at b2
      rw [hyv] at y2
      obtain ⟨yt, hyt⟩ : ∃ yt, yt = y.t := ⟨_, rfl⟩
      obtain ⟨yi, hyi⟩ : ∃ yi, yi = y.id := ⟨_, rfl⟩
      rw [← hyt] at y0
      rw [← hyi] at y1
      have b2' := ((Mod.refl NoB wr).alloc (.cells #[Value.int .u32 yt, .int .u16 yi, .slice ay ny cy] 53)).cell b2 (fun h => h)
      obtain ⟨D, hD⟩ : ∃ D, D = (yi == id) := ⟨_, rfl⟩
      have HY := Lib.hid hy
      have HD := Lib.hid hD
      have HYI := Lib.hid hyi
      clear hy hyv hyt hyi hD
      cases D with
      | true =>
        have hdd : (yi == id) = true := HD.out.symm
        go_wp2_with fail
        go_roundw
        case rel => exact ⟨k + 1, (k : Int), by omega, by go_num, rfl, .inr ⟨k, y, rfl, by omega, HY.out, by rw [← HYI.out]; exact HD.out.symm⟩, hm.alloc _⟩
        case measure => simp [intOf]; omega
      | false =>
        have hdd : (yi == id) = false := HD.out.symm
        go_wp2_with fail
        go_roundw
        case rel =>
          refine ⟨k + 1, zz, by omega, by go_num, rfl, ?_, hm.alloc _⟩
          rcases HAT.out with ⟨e, hall⟩ | ⟨j, y', e, hj, hy', hid⟩
          · refine .inl ⟨e, fun j y' hj hy' => ?_⟩
            by_cases h : j < k
            · exact hall j y' h hy'
            · obtain rfl : j = k := by omega
              rw [HY.out] at hy'
              cases hy'
              rw [← HYI.out]; exact HD.out.symm
          · exact .inr ⟨j, y', e, by omega, hy', hid⟩
        case measure => simp [intOf]; omega
    · obtain rfl : n = k := by omega
      have h1 := h0.nob hm
      have h01 := hm0.trans hm
      have hbw := hbb.mod hm (fun h => h)
      have p0 := h1.blk.cell 0
      have p1 := h1.blk.cell 1
      have f0 := h1.blk.frozen 0
      have f1 := h1.blk.frozen 1
      have b0 := hbw.cell 0
      have b1 := hbw.cell 1
      have b2 := hbw.cell 2
      have b3 := hbw.cell 3
      have b4 := hbw.cell 4
      have b5 := hbw.cell 5
      simp at p0 p1 b0 b1 b2 b3 b4 b5
      rw [← HN.out] at p0
      obtain ⟨d0, d1⟩ := hd
      have hown := h1.own
      rw [← HN.out] at hown
      have hvx : ¬ (Value.slice a n c).ownBlock = some x := own_ne_blk hown h1.blk (by decide)
      clear hlt hk e0 ho
      go_wp2_with fail
      go_ret2
      have hset : Mod (· = x) wr (wr.setCell ⟨x, 0, none⟩ (.slice none 0 0)) := (Mod.refl _ _).setCell _ (fun _ => rfl)
      have hb := h1.blk.setCell 0 (.slice none 0 0)
      have hall : Mod (rfoot x (.slice a R.length c)) w (wr.setCell ⟨x, 0, none⟩ (.slice none 0 0)) := (h01.mono (fun _ _ h => h.elim)).trans' hset (fun k _ e => .inl e)
      exact ⟨by rw [← HN.out]; rfl, ⟨hb, World.ownsRow_nil _ _ _ _, by simp, h.low, by simp⟩, hall⟩

set_option maxHeartbeats 4000000 in
set_option maxRecDepth 20000 in
theorem ref_shift (h : RefAt B w x v R off) (d t id : Int) (ta : Option Addr) (tn tk : Nat) (by_ : Int) (on : Bool) (hd : 0 ≤ d ∧ d ≤ 255) (hd5 : d % 8 = 5) (hby : -2147483648 ≤ by_ ∧ by_ ≤ 2147483647) (hrng : ∀ y ∈ R, 0 ≤ y.t ∧ y.t < 4294967296) :
    Calls Try.prog 12 #[.pointer (some ⟨x, 0, none⟩), .agg #[.int .u8 d, .int .u32 t, .int .u16 id, .slice ta tn tk, .int .i32 by_, .bool on]] w fun e w' => e = .returned (.tuple #[.int .i64 R.length, .slice none 0 0]) ∧ RefAt B w' x v (R.map (sh by_)) off ∧ Mod (rfoot x v) w w' := by
  obtain ⟨a, c, rfl⟩ := own_slice h.own
  obtain ⟨n, hn⟩ : ∃ n, n = R.length := ⟨_, rfl⟩
  obtain ⟨W0, hW0⟩ : ∃ W0, W0 = w.alloc (.cells [Value.int .u8 d, .int .u32 t, .int .u16 id, .slice ta tn tk, .int .i32 by_, .bool on].toArray 41) := ⟨_, rfl⟩
  have hm0 : Mod NoB w W0 := by rw [hW0]; exact (Mod.refl _ _).alloc _
  have hbb : Blk W0 w.heap.size 41 [.int .u8 d, .int .u32 t, .int .u16 id, .slice ta tn tk, .int .i32 by_, .bool on] := by rw [hW0]; exact Blk.new w 41 _
  have h0 := h.nob hm0
  have e0 := h0.blk.cell 0
  simp at e0
  rw [← hn] at e0
  have ho := h0.own
  rw [← hn] at ho
  have hn32 : n ≤ 32 := by rw [hn]; exact h.few
  have HN := Lib.hid hn
  have HW0 := Lib.hid hW0
  clear hn hW0
  go_enter Try.func12, Try.ntmps12
  have e0' : (w.alloc (.cells #[Value.int .u8 d, .int .u32 t, .int .u16 id, .slice ta tn tk, .int .i32 by_, .bool on] 41)).cell? ⟨x, 0, none⟩ = some (.slice a n c) := by rw [HW0.out] at e0; exact e0
  go_wp2_with fail
  rw [show w.alloc (.cells #[Value.int .u8 d, .int .u32 t, .int .u16 id, .slice ta tn tk, .int .i32 by_, .bool on] 41) = W0 from HW0.out.symm]
  clear e0'
  go_loopw [6, 22] (fun z i wr => ∃ (k : Nat) (zz : Int), k ≤ n ∧ i = .int .i64 k ∧ z = .int .i64 zz ∧ AtOk R id k zz ∧ Mod NoB W0 wr) (fun _ i _ => n - (intOf i).toNat)
  case atStart => exact ⟨0, -1, Nat.zero_le _, rfl, rfl, .inl ⟨rfl, fun j y hj => by omega⟩, Mod.refl _ _⟩
  case round =>
    obtain ⟨k, zz, hk, rfl, rfl, hat, hm⟩ := hrel
    have HAT := Lib.hid hat
    clear hat
    by_cases hlt : k < n
    · have hk1 : k < R.length := by rw [← HN.out]; exact hlt
      obtain ⟨y, hy⟩ : ∃ y, R[k]? = some y := ⟨_, List.getElem?_eq_getElem hk1⟩
      obtain ⟨g, rfl, y0, y1, y2⟩ := own_item ho HN.out.symm hy
      obtain ⟨ay, ny, cy, hyv⟩ := h.slices y (List.mem_of_getElem? hy)
      have y0 := hm.cell y0 (fun h => h)
      have y1 := hm.cell y1 (fun h => h)
      have y2 := hm.cell y2 (fun h => h)
      have b2 := (hbb.mod hm (fun h => h)).cell 2
      simp at b2
      rw [hyv] at y2
      obtain ⟨yt, hyt⟩ : ∃ yt, yt = y.t := ⟨_, rfl⟩
      obtain ⟨yi, hyi⟩ : ∃ yi, yi = y.id := ⟨_, rfl⟩
      rw [← hyt] at y0
      rw [← hyi] at y1
      have b2' := ((Mod.refl NoB wr).alloc (.cells #[Value.int .u32 yt, .int .u16 yi, .slice ay ny cy] 53)).cell b2 (fun h => h)
      obtain ⟨D, hD⟩ : ∃ D, D = (yi == id) := ⟨_, rfl⟩
      have HY := Lib.hid hy
      have HD := Lib.hid hD
      have HYI := Lib.hid hyi
      clear hy hyv hyt hyi hD
      cases D with
      | true =>
        have hdd : (yi == id) = true := HD.out.symm
        go_wp2_with fail
        go_roundw
        case rel => exact ⟨k + 1, (k : Int), by omega, by go_num, rfl, .inr ⟨k, y, rfl, by omega, HY.out, by rw [← HYI.out]; exact HD.out.symm⟩, hm.alloc _⟩
        case measure => simp [intOf]; omega
      | false =>
        have hdd : (yi == id) = false := HD.out.symm
        go_wp2_with fail
        go_roundw
        case rel =>
          refine ⟨k + 1, zz, by omega, by go_num, rfl, ?_, hm.alloc _⟩
          rcases HAT.out with ⟨e, hall⟩ | ⟨j, y', e, hj, hy', hid⟩
          · refine .inl ⟨e, fun j y' hj hy' => ?_⟩
            by_cases h : j < k
            · exact hall j y' h hy'
            · obtain rfl : j = k := by omega
              rw [HY.out] at hy'
              cases hy'
              rw [← HYI.out]; exact HD.out.symm
          · exact .inr ⟨j, y', e, by omega, hy', hid⟩
        case measure => simp [intOf]; omega
    · obtain rfl : n = k := by omega
      have h1 := h0.nob hm
      have h01 := hm0.trans hm
      have hbw := hbb.mod hm (fun h => h)
      have p0 := h1.blk.cell 0
      have p1 := h1.blk.cell 1
      have f0 := h1.blk.frozen 0
      have f1 := h1.blk.frozen 1
      have b0 := hbw.cell 0
      have b1 := hbw.cell 1
      have b2 := hbw.cell 2
      have b3 := hbw.cell 3
      have b4 := hbw.cell 4
      have b5 := hbw.cell 5
      simp at p0 p1 b0 b1 b2 b3 b4 b5
      rw [← HN.out] at p0
      obtain ⟨d0, d1⟩ := hd
      have hown := h1.own
      rw [← HN.out] at hown
      have hvx : ¬ (Value.slice a n c).ownBlock = some x := own_ne_blk hown h1.blk (by decide)
      clear hlt hk e0 ho
      obtain ⟨hby0, hby1⟩ := hby
      obtain ⟨wo, rfl⟩ : ∃ wo : World, wo = wr := ⟨_, rfl⟩
      go_wp2_with fail
      go_loopw [135] (fun i wr => ∃ k : Nat, k ≤ n ∧ i = .int .i64 k ∧ wr.ownsRow B 53 3 (.slice a n c) n (flat (shUp by_ k R)) ∧ Mod (fun k => (Value.slice a n c).ownBlock = some k) wo wr) (fun i _ => n - (intOf i).toNat)
      case atStart => exact ⟨0, Nat.zero_le _, rfl, by rw [shUp_zero]; exact hown, Mod.refl _ _⟩
      case round =>
        obtain ⟨k, hk, rfl, ho, hm⟩ := hrel
        by_cases hlt : k < n
        · have hkR : k < R.length := by rw [← HN.out]; exact hlt
          obtain ⟨y, hy⟩ : ∃ y, R[k]? = some y := ⟨_, List.getElem?_eq_getElem hkR⟩
          have hsg := shUp_get by_ k R y hy
          obtain ⟨ay, ny, cy, hyv⟩ := h.slices y (List.mem_of_getElem? hy)
          obtain ⟨g, rfl, y0, y1, y2⟩ := own_item ho (by rw [HN.out]; simp [shUp]; omega) hsg
          obtain ⟨yt, hyt⟩ : ∃ yt, yt = y.t := ⟨_, rfl⟩
          obtain ⟨yi, hyi⟩ : ∃ yi, yi = y.id := ⟨_, rfl⟩
          have hrg := hrng y (List.mem_of_getElem? hy)
          rw [← hyt] at y0 hrg
          rw [← hyi] at y1
          rw [hyv] at y2
          obtain ⟨hr0, hr1⟩ := hrg
          have hvb : ¬ (Value.slice (some ⟨g, 0, none⟩) n c).ownBlock = some w.heap.size := own_ne_blk hown hbw (by decide)
          have p0 := hm.cell p0 hvx
          have b4 := hm.cell b4 hvb
          have f0 := ho.frozenAt (k * 3)
          have hmW : Mod NoB wr (wr.alloc (.cells #[Value.int .u32 yt, .int .u16 yi, .slice ay ny cy] 53)) := (Mod.refl _ _).alloc _
          have p0' := hmW.cell p0 (fun h => h)
          have b4' := hmW.cell b4 (fun h => h)
          have f0' := ((hmW.own ho (fun _ _ h => h)).frozenAt (k * 3))
          have y0' := hmW.cell y0 (fun h => h)
          have hfin : ∀ T, shT by_ yt = T → ((wr.alloc (.cells #[Value.int .u32 yt, .int .u16 yi, .slice ay ny cy] 53)).setCell ⟨g, k * 3, none⟩ (.int .u32 T)).ownsRow B 53 3 (.slice (some ⟨g, 0, none⟩) n c) n (flat (shUp by_ (k + 1) R)) ∧ Mod (fun k => (Value.slice (some ⟨g, 0, none⟩) n c).ownBlock = some k) wo ((wr.alloc (.cells #[Value.int .u32 yt, .int .u16 yi, .slice ay ny cy] 53)).setCell ⟨g, k * 3, none⟩ (.int .u32 T)) := fun T hT => by
            refine ⟨?_, (hm.alloc _).setCell (a := ⟨g, k * 3, none⟩) _ (fun _ => rfl)⟩
            rw [shUp_succ by_ k R y hy]
            have hst := ((hmW.own ho (fun _ _ h => h)).stored (k * 3) (.int .u32 T)).1
            rw [flat_set _ k y _ hsg] at hst
            rw [show sh by_ y = { t := T, id := y.id, v := y.v, tc := y.tc } from by rw [← hT, hyt]; rfl]
            exact hst
          have HFIN := Lib.hid hfin
          clear hfin hy hsg hyv hyt hyi
          by_cases hs0 : yt + by_ < 0
          · have F := Lib.hid (HFIN.out 0 (by unfold shT; split <;> omega))
            clear HFIN
            have hs1 : ¬ (4294967295 < (0 : Int)) := by omega
            go_wp2_with fail
            go_roundw
            case rel => exact ⟨k + 1, by omega, by go_num, F.out.1, F.out.2⟩
            case measure => simp [intOf]; omega
          · by_cases hs1 : 4294967295 < yt + by_
            · have F := Lib.hid (HFIN.out 4294967295 (by unfold shT; split <;> omega))
              clear HFIN
              go_wp2_with fail
              go_roundw
              case rel => exact ⟨k + 1, by omega, by go_num, F.out.1, F.out.2⟩
              case measure => simp [intOf]; omega
            · have F := Lib.hid (HFIN.out (yt + by_) (by unfold shT; split <;> omega))
              clear HFIN
              go_wp2_with fail
              go_roundw
              case rel => exact ⟨k + 1, by omega, by go_num, F.out.1, F.out.2⟩
              case measure => simp [intOf]; omega
        · obtain rfl : n = k := by omega
          have hall : shUp by_ n R = R.map (sh by_) := by rw [HN.out]; exact shUp_all by_ R
          rw [hall] at ho
          clear hall
          have p0 := hm.cell p0 hvx
          go_wp2_with fail
          go_ret2
          have hk2 := HN.out
          subst hk2
          have hm' : Mod (rfoot x (.slice a R.length c)) w wr := (h01.mono (fun _ _ h => h.elim)).trans' hm (fun k' _ e => .inr e)
          refine ⟨rfl, ⟨h1.blk.mod hm hvx, by rw [List.length_map]; exact ho, ?_, h.low, by rw [List.length_map]; exact h.few⟩, hm'⟩
          intro y' hy'
          obtain ⟨y, hy, rfl⟩ := List.mem_map.1 hy'
          exact (h1.tcs y hy).mod hm (fun g hg e => own_ne_own (h1.tcs y hy).1 h1.own (by decide) g hg e)

set_option maxHeartbeats 4000000 in
set_option maxRecDepth 20000 in
theorem ref_due_off (h : RefAt B w x v R off) (d t id : Int) (ta : Option Addr) (tn tk : Nat) (by_ : Int) (on : Bool) (hd : 0 ≤ d ∧ d ≤ 255) (hd4 : d % 8 = 4) (hoff : off = true) :
    Calls Try.prog 12 #[.pointer (some ⟨x, 0, none⟩), .agg #[.int .u8 d, .int .u32 t, .int .u16 id, .slice ta tn tk, .int .i32 by_, .bool on]] w fun e w' => e = .returned (.tuple #[.int .i64 0, .slice none 0 0]) ∧ Mod NoB w w' := by
  obtain ⟨a, c, rfl⟩ := own_slice h.own
  obtain ⟨n, hn⟩ : ∃ n, n = R.length := ⟨_, rfl⟩
  obtain ⟨W0, hW0⟩ : ∃ W0, W0 = w.alloc (.cells [Value.int .u8 d, .int .u32 t, .int .u16 id, .slice ta tn tk, .int .i32 by_, .bool on].toArray 41) := ⟨_, rfl⟩
  have hm0 : Mod NoB w W0 := by rw [hW0]; exact (Mod.refl _ _).alloc _
  have hbb : Blk W0 w.heap.size 41 [.int .u8 d, .int .u32 t, .int .u16 id, .slice ta tn tk, .int .i32 by_, .bool on] := by rw [hW0]; exact Blk.new w 41 _
  have h0 := h.nob hm0
  have e0 := h0.blk.cell 0
  simp at e0
  rw [← hn] at e0
  have ho := h0.own
  rw [← hn] at ho
  have hn32 : n ≤ 32 := by rw [hn]; exact h.few
  have HN := Lib.hid hn
  have HW0 := Lib.hid hW0
  clear hn hW0
  go_enter Try.func12, Try.ntmps12
  have e0' : (w.alloc (.cells #[Value.int .u8 d, .int .u32 t, .int .u16 id, .slice ta tn tk, .int .i32 by_, .bool on] 41)).cell? ⟨x, 0, none⟩ = some (.slice a n c) := by rw [HW0.out] at e0; exact e0
  go_wp2_with fail
  rw [show w.alloc (.cells #[Value.int .u8 d, .int .u32 t, .int .u16 id, .slice ta tn tk, .int .i32 by_, .bool on] 41) = W0 from HW0.out.symm]
  clear e0'
  go_loopw [6, 22] (fun z i wr => ∃ (k : Nat) (zz : Int), k ≤ n ∧ i = .int .i64 k ∧ z = .int .i64 zz ∧ AtOk R id k zz ∧ Mod NoB W0 wr) (fun _ i _ => n - (intOf i).toNat)
  case atStart => exact ⟨0, -1, Nat.zero_le _, rfl, rfl, .inl ⟨rfl, fun j y hj => by omega⟩, Mod.refl _ _⟩
  case round =>
    obtain ⟨k, zz, hk, rfl, rfl, hat, hm⟩ := hrel
    have HAT := Lib.hid hat
    clear hat
    by_cases hlt : k < n
    · have hk1 : k < R.length := by rw [← HN.out]; exact hlt
      obtain ⟨y, hy⟩ : ∃ y, R[k]? = some y := ⟨_, List.getElem?_eq_getElem hk1⟩
      obtain ⟨g, rfl, y0, y1, y2⟩ := own_item ho HN.out.symm hy
      obtain ⟨ay, ny, cy, hyv⟩ := h.slices y (List.mem_of_getElem? hy)
      have y0 := hm.cell y0 (fun h => h)
      have y1 := hm.cell y1 (fun h => h)
      have y2 := hm.cell y2 (fun h => h)
      have b2 := (hbb.mod hm (fun h => h)).cell 2
      simp at b2
      rw [hyv] at y2
      obtain ⟨yt, hyt⟩ : ∃ yt, yt = y.t := ⟨_, rfl⟩
      obtain ⟨yi, hyi⟩ : ∃ yi, yi = y.id := ⟨_, rfl⟩
      rw [← hyt] at y0
      rw [← hyi] at y1
      have b2' := ((Mod.refl NoB wr).alloc (.cells #[Value.int .u32 yt, .int .u16 yi, .slice ay ny cy] 53)).cell b2 (fun h => h)
      obtain ⟨D, hD⟩ : ∃ D, D = (yi == id) := ⟨_, rfl⟩
      have HY := Lib.hid hy
      have HD := Lib.hid hD
      have HYI := Lib.hid hyi
      clear hy hyv hyt hyi hD
      cases D with
      | true =>
        have hdd : (yi == id) = true := HD.out.symm
        go_wp2_with fail
        go_roundw
        case rel => exact ⟨k + 1, (k : Int), by omega, by go_num, rfl, .inr ⟨k, y, rfl, by omega, HY.out, by rw [← HYI.out]; exact HD.out.symm⟩, hm.alloc _⟩
        case measure => simp [intOf]; omega
      | false =>
        have hdd : (yi == id) = false := HD.out.symm
        go_wp2_with fail
        go_roundw
        case rel =>
          refine ⟨k + 1, zz, by omega, by go_num, rfl, ?_, hm.alloc _⟩
          rcases HAT.out with ⟨e, hall⟩ | ⟨j, y', e, hj, hy', hid⟩
          · refine .inl ⟨e, fun j y' hj hy' => ?_⟩
            by_cases h : j < k
            · exact hall j y' h hy'
            · obtain rfl : j = k := by omega
              rw [HY.out] at hy'
              cases hy'
              rw [← HYI.out]; exact HD.out.symm
          · exact .inr ⟨j, y', e, by omega, hy', hid⟩
        case measure => simp [intOf]; omega
    · obtain rfl : n = k := by omega
      have h1 := h0.nob hm
      have h01 := hm0.trans hm
      have hbw := hbb.mod hm (fun h => h)
      have p0 := h1.blk.cell 0
      have p1 := h1.blk.cell 1
      have f0 := h1.blk.frozen 0
      have f1 := h1.blk.frozen 1
      have b0 := hbw.cell 0
      have b1 := hbw.cell 1
      have b2 := hbw.cell 2
      have b3 := hbw.cell 3
      have b4 := hbw.cell 4
      have b5 := hbw.cell 5
      simp at p0 p1 b0 b1 b2 b3 b4 b5
      rw [← HN.out] at p0
      obtain ⟨d0, d1⟩ := hd
      have hown := h1.own
      rw [← HN.out] at hown
      have hvx : ¬ (Value.slice a n c).ownBlock = some x := own_ne_blk hown h1.blk (by decide)
      clear hlt hk e0 ho
      subst hoff
      go_wp2_with fail
      go_ret2
      exact ⟨rfl, h01⟩

set_option maxHeartbeats 4000000 in
set_option maxRecDepth 20000 in
theorem ref_delete_none (h : RefAt B w x v R off) (d t id : Int) (ta : Option Addr) (tn tk : Nat) (by_ : Int) (on : Bool) (hd : 0 ≤ d ∧ d ≤ 255) (hd3 : d % 8 = 3) (hno : R.any (fun y => y.id == id) = false) :
    Calls Try.prog 12 #[.pointer (some ⟨x, 0, none⟩), .agg #[.int .u8 d, .int .u32 t, .int .u16 id, .slice ta tn tk, .int .i32 by_, .bool on]] w fun e w' => e = .returned (.tuple #[.int .i64 3, .slice none 0 0]) ∧ Mod NoB w w' := by
  obtain ⟨a, c, rfl⟩ := own_slice h.own
  obtain ⟨n, hn⟩ : ∃ n, n = R.length := ⟨_, rfl⟩
  obtain ⟨W0, hW0⟩ : ∃ W0, W0 = w.alloc (.cells [Value.int .u8 d, .int .u32 t, .int .u16 id, .slice ta tn tk, .int .i32 by_, .bool on].toArray 41) := ⟨_, rfl⟩
  have hm0 : Mod NoB w W0 := by rw [hW0]; exact (Mod.refl _ _).alloc _
  have hbb : Blk W0 w.heap.size 41 [.int .u8 d, .int .u32 t, .int .u16 id, .slice ta tn tk, .int .i32 by_, .bool on] := by rw [hW0]; exact Blk.new w 41 _
  have h0 := h.nob hm0
  have e0 := h0.blk.cell 0
  simp at e0
  rw [← hn] at e0
  have ho := h0.own
  rw [← hn] at ho
  have hn32 : n ≤ 32 := by rw [hn]; exact h.few
  have HN := Lib.hid hn
  have HW0 := Lib.hid hW0
  clear hn hW0
  go_enter Try.func12, Try.ntmps12
  have e0' : (w.alloc (.cells #[Value.int .u8 d, .int .u32 t, .int .u16 id, .slice ta tn tk, .int .i32 by_, .bool on] 41)).cell? ⟨x, 0, none⟩ = some (.slice a n c) := by rw [HW0.out] at e0; exact e0
  go_wp2_with fail
  rw [show w.alloc (.cells #[Value.int .u8 d, .int .u32 t, .int .u16 id, .slice ta tn tk, .int .i32 by_, .bool on] 41) = W0 from HW0.out.symm]
  clear e0'
  go_loopw [6, 22] (fun z i wr => ∃ (k : Nat) (zz : Int), k ≤ n ∧ i = .int .i64 k ∧ z = .int .i64 zz ∧ AtOk R id k zz ∧ Mod NoB W0 wr) (fun _ i _ => n - (intOf i).toNat)
  case atStart => exact ⟨0, -1, Nat.zero_le _, rfl, rfl, .inl ⟨rfl, fun j y hj => by omega⟩, Mod.refl _ _⟩
  case round =>
    obtain ⟨k, zz, hk, rfl, rfl, hat, hm⟩ := hrel
    have HAT := Lib.hid hat
    clear hat
    by_cases hlt : k < n
    · have hk1 : k < R.length := by rw [← HN.out]; exact hlt
      obtain ⟨y, hy⟩ : ∃ y, R[k]? = some y := ⟨_, List.getElem?_eq_getElem hk1⟩
      obtain ⟨g, rfl, y0, y1, y2⟩ := own_item ho HN.out.symm hy
      obtain ⟨ay, ny, cy, hyv⟩ := h.slices y (List.mem_of_getElem? hy)
      have y0 := hm.cell y0 (fun h => h)
      have y1 := hm.cell y1 (fun h => h)
      have y2 := hm.cell y2 (fun h => h)
      have b2 := (hbb.mod hm (fun h => h)).cell 2
      simp at b2
      rw [hyv] at y2
      obtain ⟨yt, hyt⟩ : ∃ yt, yt = y.t := ⟨_, rfl⟩
      obtain ⟨yi, hyi⟩ : ∃ yi, yi = y.id := ⟨_, rfl⟩
      rw [← hyt] at y0
      rw [← hyi] at y1
      have b2' := ((Mod.refl NoB wr).alloc (.cells #[Value.int .u32 yt, .int .u16 yi, .slice ay ny cy] 53)).cell b2 (fun h => h)
      obtain ⟨D, hD⟩ : ∃ D, D = (yi == id) := ⟨_, rfl⟩
      have HY := Lib.hid hy
      have HD := Lib.hid hD
      have HYI := Lib.hid hyi
      clear hy hyv hyt hyi hD
      cases D with
      | true =>
        have hdd : (yi == id) = true := HD.out.symm
        go_wp2_with fail
        go_roundw
        case rel => exact ⟨k + 1, (k : Int), by omega, by go_num, rfl, .inr ⟨k, y, rfl, by omega, HY.out, by rw [← HYI.out]; exact HD.out.symm⟩, hm.alloc _⟩
        case measure => simp [intOf]; omega
      | false =>
        have hdd : (yi == id) = false := HD.out.symm
        go_wp2_with fail
        go_roundw
        case rel =>
          refine ⟨k + 1, zz, by omega, by go_num, rfl, ?_, hm.alloc _⟩
          rcases HAT.out with ⟨e, hall⟩ | ⟨j, y', e, hj, hy', hid⟩
          · refine .inl ⟨e, fun j y' hj hy' => ?_⟩
            by_cases h : j < k
            · exact hall j y' h hy'
            · obtain rfl : j = k := by omega
              rw [HY.out] at hy'
              cases hy'
              rw [← HYI.out]; exact HD.out.symm
          · exact .inr ⟨j, y', e, by omega, hy', hid⟩
        case measure => simp [intOf]; omega
    · obtain rfl : n = k := by omega
      have h1 := h0.nob hm
      have h01 := hm0.trans hm
      have hbw := hbb.mod hm (fun h => h)
      have p0 := h1.blk.cell 0
      have p1 := h1.blk.cell 1
      have f0 := h1.blk.frozen 0
      have f1 := h1.blk.frozen 1
      have b0 := hbw.cell 0
      have b1 := hbw.cell 1
      have b2 := hbw.cell 2
      have b3 := hbw.cell 3
      have b4 := hbw.cell 4
      have b5 := hbw.cell 5
      simp at p0 p1 b0 b1 b2 b3 b4 b5
      rw [← HN.out] at p0
      obtain ⟨d0, d1⟩ := hd
      have hown := h1.own
      rw [← HN.out] at hown
      have hvx : ¬ (Value.slice a n c).ownBlock = some x := own_ne_blk hown h1.blk (by decide)
      clear hlt hk e0 ho
      have hzz : zz = -1 := by
        rcases HAT.out with ⟨e, -⟩ | ⟨j, y, -, -, hy, hid⟩
        · exact e
        · have := List.any_eq_false.1 hno y (List.mem_of_getElem? hy)
          exact absurd hid (by simpa using this)
      subst hzz
      go_wp2_with fail
      go_ret2
      exact ⟨rfl, h01⟩

set_option maxHeartbeats 4000000 in
set_option maxRecDepth 20000 in
theorem ref_insert_long (h : RefAt B w x v R off) (d t id : Int) (ta : Option Addr) (tn tk : Nat) (by_ : Int) (on : Bool) (hd : 0 ≤ d ∧ d ≤ 255) (hdi : d % 8 = 0 ∨ d % 8 = 1 ∨ d % 8 = 2) (hl : 208 < tn) :
    Calls Try.prog 12 #[.pointer (some ⟨x, 0, none⟩), .agg #[.int .u8 d, .int .u32 t, .int .u16 id, .slice ta tn tk, .int .i32 by_, .bool on]] w fun e w' => e = .returned (.tuple #[.int .i64 4, .slice none 0 0]) ∧ Mod NoB w w' := by
  obtain ⟨a, c, rfl⟩ := own_slice h.own
  obtain ⟨n, hn⟩ : ∃ n, n = R.length := ⟨_, rfl⟩
  obtain ⟨W0, hW0⟩ : ∃ W0, W0 = w.alloc (.cells [Value.int .u8 d, .int .u32 t, .int .u16 id, .slice ta tn tk, .int .i32 by_, .bool on].toArray 41) := ⟨_, rfl⟩
  have hm0 : Mod NoB w W0 := by rw [hW0]; exact (Mod.refl _ _).alloc _
  have hbb : Blk W0 w.heap.size 41 [.int .u8 d, .int .u32 t, .int .u16 id, .slice ta tn tk, .int .i32 by_, .bool on] := by rw [hW0]; exact Blk.new w 41 _
  have h0 := h.nob hm0
  have e0 := h0.blk.cell 0
  simp at e0
  rw [← hn] at e0
  have ho := h0.own
  rw [← hn] at ho
  have hn32 : n ≤ 32 := by rw [hn]; exact h.few
  have HN := Lib.hid hn
  have HW0 := Lib.hid hW0
  clear hn hW0
  go_enter Try.func12, Try.ntmps12
  have e0' : (w.alloc (.cells #[Value.int .u8 d, .int .u32 t, .int .u16 id, .slice ta tn tk, .int .i32 by_, .bool on] 41)).cell? ⟨x, 0, none⟩ = some (.slice a n c) := by rw [HW0.out] at e0; exact e0
  go_wp2_with fail
  rw [show w.alloc (.cells #[Value.int .u8 d, .int .u32 t, .int .u16 id, .slice ta tn tk, .int .i32 by_, .bool on] 41) = W0 from HW0.out.symm]
  clear e0'
  go_loopw [6, 22] (fun z i wr => ∃ (k : Nat) (zz : Int), k ≤ n ∧ i = .int .i64 k ∧ z = .int .i64 zz ∧ AtOk R id k zz ∧ Mod NoB W0 wr) (fun _ i _ => n - (intOf i).toNat)
  case atStart => exact ⟨0, -1, Nat.zero_le _, rfl, rfl, .inl ⟨rfl, fun j y hj => by omega⟩, Mod.refl _ _⟩
  case round =>
    obtain ⟨k, zz, hk, rfl, rfl, hat, hm⟩ := hrel
    have HAT := Lib.hid hat
    clear hat
    by_cases hlt : k < n
    · have hk1 : k < R.length := by rw [← HN.out]; exact hlt
      obtain ⟨y, hy⟩ : ∃ y, R[k]? = some y := ⟨_, List.getElem?_eq_getElem hk1⟩
      obtain ⟨g, rfl, y0, y1, y2⟩ := own_item ho HN.out.symm hy
      obtain ⟨ay, ny, cy, hyv⟩ := h.slices y (List.mem_of_getElem? hy)
      have y0 := hm.cell y0 (fun h => h)
      have y1 := hm.cell y1 (fun h => h)
      have y2 := hm.cell y2 (fun h => h)
      have b2 := (hbb.mod hm (fun h => h)).cell 2
      simp at b2
      rw [hyv] at y2
      obtain ⟨yt, hyt⟩ : ∃ yt, yt = y.t := ⟨_, rfl⟩
      obtain ⟨yi, hyi⟩ : ∃ yi, yi = y.id := ⟨_, rfl⟩
      rw [← hyt] at y0
      rw [← hyi] at y1
      have b2' := ((Mod.refl NoB wr).alloc (.cells #[Value.int .u32 yt, .int .u16 yi, .slice ay ny cy] 53)).cell b2 (fun h => h)
      obtain ⟨D, hD⟩ : ∃ D, D = (yi == id) := ⟨_, rfl⟩
      have HY := Lib.hid hy
      have HD := Lib.hid hD
      have HYI := Lib.hid hyi
      clear hy hyv hyt hyi hD
      cases D with
      | true =>
        have hdd : (yi == id) = true := HD.out.symm
        go_wp2_with fail
        go_roundw
        case rel => exact ⟨k + 1, (k : Int), by omega, by go_num, rfl, .inr ⟨k, y, rfl, by omega, HY.out, by rw [← HYI.out]; exact HD.out.symm⟩, hm.alloc _⟩
        case measure => simp [intOf]; omega
      | false =>
        have hdd : (yi == id) = false := HD.out.symm
        go_wp2_with fail
        go_roundw
        case rel =>
          refine ⟨k + 1, zz, by omega, by go_num, rfl, ?_, hm.alloc _⟩
          rcases HAT.out with ⟨e, hall⟩ | ⟨j, y', e, hj, hy', hid⟩
          · refine .inl ⟨e, fun j y' hj hy' => ?_⟩
            by_cases h : j < k
            · exact hall j y' h hy'
            · obtain rfl : j = k := by omega
              rw [HY.out] at hy'
              cases hy'
              rw [← HYI.out]; exact HD.out.symm
          · exact .inr ⟨j, y', e, by omega, hy', hid⟩
        case measure => simp [intOf]; omega
    · obtain rfl : n = k := by omega
      have h1 := h0.nob hm
      have h01 := hm0.trans hm
      have hbw := hbb.mod hm (fun h => h)
      have p0 := h1.blk.cell 0
      have p1 := h1.blk.cell 1
      have f0 := h1.blk.frozen 0
      have f1 := h1.blk.frozen 1
      have b0 := hbw.cell 0
      have b1 := hbw.cell 1
      have b2 := hbw.cell 2
      have b3 := hbw.cell 3
      have b4 := hbw.cell 4
      have b5 := hbw.cell 5
      simp at p0 p1 b0 b1 b2 b3 b4 b5
      rw [← HN.out] at p0
      obtain ⟨d0, d1⟩ := hd
      have hown := h1.own
      rw [← HN.out] at hown
      have hvx : ¬ (Value.slice a n c).ownBlock = some x := own_ne_blk hown h1.blk (by decide)
      clear hlt hk e0 ho
      have h3 : ¬ d % 8 = 3 := by omega
      have h4 : ¬ d % 8 = 4 := by omega
      have h5 : ¬ d % 8 = 5 := by omega
      have h6 : ¬ d % 8 = 6 := by omega
      have h7 : ¬ d % 8 = 7 := by omega
      go_wp2_with fail
      go_ret2
      exact ⟨rfl, h01⟩

set_option maxHeartbeats 4000000 in
set_option maxRecDepth 20000 in
theorem ref_insert_there (h : RefAt B w x v R off) (d t id : Int) (ta : Option Addr) (tn tk : Nat) (by_ : Int) (on : Bool) (hd : 0 ≤ d ∧ d ≤ 255) (hdi : d % 8 = 0 ∨ d % 8 = 1 ∨ d % 8 = 2) (hl : tn ≤ 208) (hin : R.any (fun y => y.id == id) = true) :
    Calls Try.prog 12 #[.pointer (some ⟨x, 0, none⟩), .agg #[.int .u8 d, .int .u32 t, .int .u16 id, .slice ta tn tk, .int .i32 by_, .bool on]] w fun e w' => e = .returned (.tuple #[.int .i64 8, .slice none 0 0]) ∧ Mod NoB w w' := by
  obtain ⟨a, c, rfl⟩ := own_slice h.own
  obtain ⟨n, hn⟩ : ∃ n, n = R.length := ⟨_, rfl⟩
  obtain ⟨W0, hW0⟩ : ∃ W0, W0 = w.alloc (.cells [Value.int .u8 d, .int .u32 t, .int .u16 id, .slice ta tn tk, .int .i32 by_, .bool on].toArray 41) := ⟨_, rfl⟩
  have hm0 : Mod NoB w W0 := by rw [hW0]; exact (Mod.refl _ _).alloc _
  have hbb : Blk W0 w.heap.size 41 [.int .u8 d, .int .u32 t, .int .u16 id, .slice ta tn tk, .int .i32 by_, .bool on] := by rw [hW0]; exact Blk.new w 41 _
  have h0 := h.nob hm0
  have e0 := h0.blk.cell 0
  simp at e0
  rw [← hn] at e0
  have ho := h0.own
  rw [← hn] at ho
  have hn32 : n ≤ 32 := by rw [hn]; exact h.few
  have HN := Lib.hid hn
  have HW0 := Lib.hid hW0
  clear hn hW0
  go_enter Try.func12, Try.ntmps12
  have e0' : (w.alloc (.cells #[Value.int .u8 d, .int .u32 t, .int .u16 id, .slice ta tn tk, .int .i32 by_, .bool on] 41)).cell? ⟨x, 0, none⟩ = some (.slice a n c) := by rw [HW0.out] at e0; exact e0
  go_wp2_with fail
  rw [show w.alloc (.cells #[Value.int .u8 d, .int .u32 t, .int .u16 id, .slice ta tn tk, .int .i32 by_, .bool on] 41) = W0 from HW0.out.symm]
  clear e0'
  go_loopw [6, 22] (fun z i wr => ∃ (k : Nat) (zz : Int), k ≤ n ∧ i = .int .i64 k ∧ z = .int .i64 zz ∧ AtOk R id k zz ∧ Mod NoB W0 wr) (fun _ i _ => n - (intOf i).toNat)
  case atStart => exact ⟨0, -1, Nat.zero_le _, rfl, rfl, .inl ⟨rfl, fun j y hj => by omega⟩, Mod.refl _ _⟩
  case round =>
    obtain ⟨k, zz, hk, rfl, rfl, hat, hm⟩ := hrel
    have HAT := Lib.hid hat
    clear hat
    by_cases hlt : k < n
    · have hk1 : k < R.length := by rw [← HN.out]; exact hlt
      obtain ⟨y, hy⟩ : ∃ y, R[k]? = some y := ⟨_, List.getElem?_eq_getElem hk1⟩
      obtain ⟨g, rfl, y0, y1, y2⟩ := own_item ho HN.out.symm hy
      obtain ⟨ay, ny, cy, hyv⟩ := h.slices y (List.mem_of_getElem? hy)
      have y0 := hm.cell y0 (fun h => h)
      have y1 := hm.cell y1 (fun h => h)
      have y2 := hm.cell y2 (fun h => h)
      have b2 := (hbb.mod hm (fun h => h)).cell 2
      simp at b2
      rw [hyv] at y2
      obtain ⟨yt, hyt⟩ : ∃ yt, yt = y.t := ⟨_, rfl⟩
      obtain ⟨yi, hyi⟩ : ∃ yi, yi = y.id := ⟨_, rfl⟩
      rw [← hyt] at y0
      rw [← hyi] at y1
      have b2' := ((Mod.refl NoB wr).alloc (.cells #[Value.int .u32 yt, .int .u16 yi, .slice ay ny cy] 53)).cell b2 (fun h => h)
      obtain ⟨D, hD⟩ : ∃ D, D = (yi == id) := ⟨_, rfl⟩
      have HY := Lib.hid hy
      have HD := Lib.hid hD
      have HYI := Lib.hid hyi
      clear hy hyv hyt hyi hD
      cases D with
      | true =>
        have hdd : (yi == id) = true := HD.out.symm
        go_wp2_with fail
        go_roundw
        case rel => exact ⟨k + 1, (k : Int), by omega, by go_num, rfl, .inr ⟨k, y, rfl, by omega, HY.out, by rw [← HYI.out]; exact HD.out.symm⟩, hm.alloc _⟩
        case measure => simp [intOf]; omega
      | false =>
        have hdd : (yi == id) = false := HD.out.symm
        go_wp2_with fail
        go_roundw
        case rel =>
          refine ⟨k + 1, zz, by omega, by go_num, rfl, ?_, hm.alloc _⟩
          rcases HAT.out with ⟨e, hall⟩ | ⟨j, y', e, hj, hy', hid⟩
          · refine .inl ⟨e, fun j y' hj hy' => ?_⟩
            by_cases h : j < k
            · exact hall j y' h hy'
            · obtain rfl : j = k := by omega
              rw [HY.out] at hy'
              cases hy'
              rw [← HYI.out]; exact HD.out.symm
          · exact .inr ⟨j, y', e, by omega, hy', hid⟩
        case measure => simp [intOf]; omega
    · obtain rfl : n = k := by omega
      have h1 := h0.nob hm
      have h01 := hm0.trans hm
      have hbw := hbb.mod hm (fun h => h)
      have p0 := h1.blk.cell 0
      have p1 := h1.blk.cell 1
      have f0 := h1.blk.frozen 0
      have f1 := h1.blk.frozen 1
      have b0 := hbw.cell 0
      have b1 := hbw.cell 1
      have b2 := hbw.cell 2
      have b3 := hbw.cell 3
      have b4 := hbw.cell 4
      have b5 := hbw.cell 5
      simp at p0 p1 b0 b1 b2 b3 b4 b5
      rw [← HN.out] at p0
      obtain ⟨d0, d1⟩ := hd
      have hown := h1.own
      rw [← HN.out] at hown
      have hvx : ¬ (Value.slice a n c).ownBlock = some x := own_ne_blk hown h1.blk (by decide)
      clear hlt hk e0 ho
      have h3 : ¬ d % 8 = 3 := by omega
      have h4 : ¬ d % 8 = 4 := by omega
      have h5 : ¬ d % 8 = 5 := by omega
      have h6 : ¬ d % 8 = 6 := by omega
      have h7 : ¬ d % 8 = 7 := by omega
      have hzz : 0 ≤ zz := by
        rcases HAT.out with ⟨e, hall⟩ | ⟨j, y, e, -⟩
        · obtain ⟨y, hy, hid⟩ := List.any_eq_true.1 hin
          obtain ⟨j, hj⟩ := List.getElem?_of_mem hy
          have := hall j y (by have := (List.getElem?_eq_some_iff.1 hj).1; have := HN.out; omega) hj
          rw [this] at hid
          cases hid
        · omega
      have hzz' : ¬ zz < 0 := by omega
      have hl' : ¬ 208 < tn := by omega
      go_wp2_with fail
      go_ret2
      exact ⟨rfl, h01⟩

set_option maxHeartbeats 4000000 in
set_option maxRecDepth 20000 in
theorem ref_insert_full (h : RefAt B w x v R off) (d t id : Int) (ta : Option Addr) (tn tk : Nat) (by_ : Int) (on : Bool) (hd : 0 ≤ d ∧ d ≤ 255) (hdi : d % 8 = 0 ∨ d % 8 = 1 ∨ d % 8 = 2) (hl : tn ≤ 208) (hfull : R.length = 32) (hno : R.any (fun y => y.id == id) = false) :
    Calls Try.prog 12 #[.pointer (some ⟨x, 0, none⟩), .agg #[.int .u8 d, .int .u32 t, .int .u16 id, .slice ta tn tk, .int .i32 by_, .bool on]] w fun e w' => e = .returned (.tuple #[.int .i64 6, .slice none 0 0]) ∧ Mod NoB w w' := by
  obtain ⟨a, c, rfl⟩ := own_slice h.own
  obtain ⟨n, hn⟩ : ∃ n, n = R.length := ⟨_, rfl⟩
  obtain ⟨W0, hW0⟩ : ∃ W0, W0 = w.alloc (.cells [Value.int .u8 d, .int .u32 t, .int .u16 id, .slice ta tn tk, .int .i32 by_, .bool on].toArray 41) := ⟨_, rfl⟩
  have hm0 : Mod NoB w W0 := by rw [hW0]; exact (Mod.refl _ _).alloc _
  have hbb : Blk W0 w.heap.size 41 [.int .u8 d, .int .u32 t, .int .u16 id, .slice ta tn tk, .int .i32 by_, .bool on] := by rw [hW0]; exact Blk.new w 41 _
  have h0 := h.nob hm0
  have e0 := h0.blk.cell 0
  simp at e0
  rw [← hn] at e0
  have ho := h0.own
  rw [← hn] at ho
  have hn32 : n ≤ 32 := by rw [hn]; exact h.few
  have HN := Lib.hid hn
  have HW0 := Lib.hid hW0
  clear hn hW0
  go_enter Try.func12, Try.ntmps12
  have e0' : (w.alloc (.cells #[Value.int .u8 d, .int .u32 t, .int .u16 id, .slice ta tn tk, .int .i32 by_, .bool on] 41)).cell? ⟨x, 0, none⟩ = some (.slice a n c) := by rw [HW0.out] at e0; exact e0
  go_wp2_with fail
  rw [show w.alloc (.cells #[Value.int .u8 d, .int .u32 t, .int .u16 id, .slice ta tn tk, .int .i32 by_, .bool on] 41) = W0 from HW0.out.symm]
  clear e0'
  go_loopw [6, 22] (fun z i wr => ∃ (k : Nat) (zz : Int), k ≤ n ∧ i = .int .i64 k ∧ z = .int .i64 zz ∧ AtOk R id k zz ∧ Mod NoB W0 wr) (fun _ i _ => n - (intOf i).toNat)
  case atStart => exact ⟨0, -1, Nat.zero_le _, rfl, rfl, .inl ⟨rfl, fun j y hj => by omega⟩, Mod.refl _ _⟩
  case round =>
    obtain ⟨k, zz, hk, rfl, rfl, hat, hm⟩ := hrel
    have HAT := Lib.hid hat
    clear hat
    by_cases hlt : k < n
    · have hk1 : k < R.length := by rw [← HN.out]; exact hlt
      obtain ⟨y, hy⟩ : ∃ y, R[k]? = some y := ⟨_, List.getElem?_eq_getElem hk1⟩
      obtain ⟨g, rfl, y0, y1, y2⟩ := own_item ho HN.out.symm hy
      obtain ⟨ay, ny, cy, hyv⟩ := h.slices y (List.mem_of_getElem? hy)
      have y0 := hm.cell y0 (fun h => h)
      have y1 := hm.cell y1 (fun h => h)
      have y2 := hm.cell y2 (fun h => h)
      have b2 := (hbb.mod hm (fun h => h)).cell 2
      simp at b2
      rw [hyv] at y2
      obtain ⟨yt, hyt⟩ : ∃ yt, yt = y.t := ⟨_, rfl⟩
      obtain ⟨yi, hyi⟩ : ∃ yi, yi = y.id := ⟨_, rfl⟩
      rw [← hyt] at y0
      rw [← hyi] at y1
      have b2' := ((Mod.refl NoB wr).alloc (.cells #[Value.int .u32 yt, .int .u16 yi, .slice ay ny cy] 53)).cell b2 (fun h => h)
      obtain ⟨D, hD⟩ : ∃ D, D = (yi == id) := ⟨_, rfl⟩
      have HY := Lib.hid hy
      have HD := Lib.hid hD
      have HYI := Lib.hid hyi
      clear hy hyv hyt hyi hD
      cases D with
      | true =>
        have hdd : (yi == id) = true := HD.out.symm
        go_wp2_with fail
        go_roundw
        case rel => exact ⟨k + 1, (k : Int), by omega, by go_num, rfl, .inr ⟨k, y, rfl, by omega, HY.out, by rw [← HYI.out]; exact HD.out.symm⟩, hm.alloc _⟩
        case measure => simp [intOf]; omega
      | false =>
        have hdd : (yi == id) = false := HD.out.symm
        go_wp2_with fail
        go_roundw
        case rel =>
          refine ⟨k + 1, zz, by omega, by go_num, rfl, ?_, hm.alloc _⟩
          rcases HAT.out with ⟨e, hall⟩ | ⟨j, y', e, hj, hy', hid⟩
          · refine .inl ⟨e, fun j y' hj hy' => ?_⟩
            by_cases h : j < k
            · exact hall j y' h hy'
            · obtain rfl : j = k := by omega
              rw [HY.out] at hy'
              cases hy'
              rw [← HYI.out]; exact HD.out.symm
          · exact .inr ⟨j, y', e, by omega, hy', hid⟩
        case measure => simp [intOf]; omega
    · obtain rfl : n = k := by omega
      have h1 := h0.nob hm
      have h01 := hm0.trans hm
      have hbw := hbb.mod hm (fun h => h)
      have p0 := h1.blk.cell 0
      have p1 := h1.blk.cell 1
      have f0 := h1.blk.frozen 0
      have f1 := h1.blk.frozen 1
      have b0 := hbw.cell 0
      have b1 := hbw.cell 1
      have b2 := hbw.cell 2
      have b3 := hbw.cell 3
      have b4 := hbw.cell 4
      have b5 := hbw.cell 5
      simp at p0 p1 b0 b1 b2 b3 b4 b5
      rw [← HN.out] at p0
      obtain ⟨d0, d1⟩ := hd
      have hown := h1.own
      rw [← HN.out] at hown
      have hvx : ¬ (Value.slice a n c).ownBlock = some x := own_ne_blk hown h1.blk (by decide)
      clear hlt hk e0 ho
      have h3 : ¬ d % 8 = 3 := by omega
      have h4 : ¬ d % 8 = 4 := by omega
      have h5 : ¬ d % 8 = 5 := by omega
      have h6 : ¬ d % 8 = 6 := by omega
      have h7 : ¬ d % 8 = 7 := by omega
      have hzz : zz = -1 := by
        rcases HAT.out with ⟨e, -⟩ | ⟨j, y, -, -, hy, hid⟩
        · exact e
        · have := List.any_eq_false.1 hno y (List.mem_of_getElem? hy)
          exact absurd hid (by simpa using this)
      subst hzz
      have hl' : ¬ 208 < tn := by omega
      have hf : n = 32 := by rw [HN.out]; exact hfull
      subst hf
      go_wp2_with fail
      go_ret2
      exact ⟨rfl, h01⟩
end
end Go.Proofs.Ytelfhcojpigkoaa
