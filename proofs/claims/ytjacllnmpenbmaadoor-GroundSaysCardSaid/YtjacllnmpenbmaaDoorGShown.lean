/- shown, verified, Tell at the document's example, awake. -/
import Derived.Test.YtjacllnmpenbmaaDoorGBuild
import Derived.Test.YtjacllnmpenbmaaDoorGSay
import Derived.Deep.RegionHeld3
namespace Go.Proofs.YtjacllnmpenbmaaDoor
open Go Go.RowKit

theorem BAt.is {w : World} {base b : Nat} {l : List UInt8} (h : BAt w base b (l.map fun c => (c.toNat : Int))) (hb : base ≤ b) : Lib.IsBuilder 87 5 base b (Lib.byteCells l) w := by
  obtain ⟨p, v, hp, hbl, hown⟩ := h
  have hv : bv (l.map fun c => (c.toNat : Int)) = Lib.byteCells l := by simp [bv, Lib.byteCells]
  have key : Lib.BuilderAt 87 5 base b p (Lib.byteCells l) w := by
    refine ⟨hb, v, hbl, ?_, own_ne_blk hown hbl (by decide)⟩
    rw [← hv]
    simpa [bv] using hown
  rcases hp with rfl | rfl
  · exact .inl key
  · exact .inr key

/-- The example's bytes, shown. -/
def showL : List UInt8 := [49, 56, 48, 51, 99, 48, 48, 48]
set_option maxHeartbeats 2000000 in
set_option maxRecDepth 100000 in
theorem shown_walk (w : World) (a : Option Addr) (c : Nat) (hr : Rd w a (bv [24, 3, 192, 0])) :
    Calls Tryd.prog 31 #[.slice a 4 c] w fun e w' => e = .returned (.string (bs showL)) ∧ Mod NoB w w' := by
  obtain ⟨g, o, rfl, hg, r0⟩ := hr.at_ (j := 0) (u := .int .u8 24) rfl
  have r0 : w.cell? ⟨g, o, none⟩ = some (.int .u8 24) := r0
  have r1 : w.cell? ⟨g, o + 1, none⟩ = some (.int .u8 3) := hr.arr 1 (.int .u8 3) rfl
  have r2 : w.cell? ⟨g, o + 2, none⟩ = some (.int .u8 192) := hr.arr 2 (.int .u8 192) rfl
  have r3 : w.cell? ⟨g, o + 3, none⟩ = some (.int .u8 0) := hr.arr 3 (.int .u8 0) rfl
  obtain ⟨B, hBeq⟩ : ∃ B, B = w.heap.size := ⟨_, rfl⟩
  have hB0 : BAt (w.alloc (.cells #[.pointer none, .slice none 0 0] 87)) B B [] := by
    rw [hBeq]
    exact ⟨.pointer none, .slice none 0 0, .inl rfl, Blk.new w _ _, World.ownsRow_nil _ _ _ _⟩
  have hm0 : Mod (fun k => B ≤ k) w (w.alloc (.cells #[.pointer none, .slice none 0 0] 87)) := (Mod.refl _ _).alloc _
  have HB := Lib.hid hBeq
  have hgB : g < B := by omega
  have hwB : B ≤ w.heap.size := by omega
  clear hBeq hr
  go_enter Tryd.func31, Tryd.ntmps31
  go_wp2_with fail
  rw [← HB.out]
  go_loopw [8] (fun i wr => ∃ k : Nat, k ≤ 4 ∧ i = .int .i64 k ∧ BAt wr B B ((showL.take (2 * k)).map fun c => (c.toNat : Int)) ∧ Mod (fun z => B ≤ z) w wr) (fun i _ => 4 - (intOf i).toNat)
  case atStart => exact ⟨0, by omega, rfl, hB0, hm0⟩
  case round =>
    obtain ⟨k, hk, rfl, hbt, hm⟩ := hrel
    have q0 := hm.cell r0 (by show ¬ B ≤ g; omega)
    have q1 := hm.cell r1 (by show ¬ B ≤ g; omega)
    have q2 := hm.cell r2 (by show ¬ B ≤ g; omega)
    have q3 := hm.cell r3 (by show ¬ B ≤ g; omega)
    have hsz := hm.size
    have hk' : k = 0 ∨ k = 1 ∨ k = 2 ∨ k = 3 ∨ k = 4 := by omega
    rcases hk' with rfl | rfl | rfl | rfl | rfl
    · go_wp2_with fail
      refine (writebyte_walk wr B B _ _ hbt (by simp [showL]) (by omega) (by omega)).mono ?_
      rintro e w5 ⟨rfl, hb5, hm5⟩
      go_wp2_with fail
      refine (writebyte_walk w5 B B _ _ hb5 (by simp [showL]) (by have := hm5.size; omega) (by omega)).mono ?_
      rintro e w6 ⟨rfl, hb6, hm6⟩
      go_wp2_with fail
      go_roundw
      case rel => exact ⟨1, by omega, by go_num, hb6, (hm.trans hm5).trans hm6⟩
      case measure => simp [intOf]
    · go_wp2_with fail
      refine (writebyte_walk wr B B _ _ hbt (by simp [showL]) (by omega) (by omega)).mono ?_
      rintro e w5 ⟨rfl, hb5, hm5⟩
      go_wp2_with fail
      refine (writebyte_walk w5 B B _ _ hb5 (by simp [showL]) (by have := hm5.size; omega) (by omega)).mono ?_
      rintro e w6 ⟨rfl, hb6, hm6⟩
      go_wp2_with fail
      go_roundw
      case rel => exact ⟨2, by omega, by go_num, hb6, (hm.trans hm5).trans hm6⟩
      case measure => simp [intOf]
    · go_wp2_with fail
      refine (writebyte_walk wr B B _ _ hbt (by simp [showL]) (by omega) (by omega)).mono ?_
      rintro e w5 ⟨rfl, hb5, hm5⟩
      go_wp2_with fail
      refine (writebyte_walk w5 B B _ _ hb5 (by simp [showL]) (by have := hm5.size; omega) (by omega)).mono ?_
      rintro e w6 ⟨rfl, hb6, hm6⟩
      go_wp2_with fail
      go_roundw
      case rel => exact ⟨3, by omega, by go_num, hb6, (hm.trans hm5).trans hm6⟩
      case measure => simp [intOf]
    · go_wp2_with fail
      refine (writebyte_walk wr B B _ _ hbt (by simp [showL]) (by omega) (by omega)).mono ?_
      rintro e w5 ⟨rfl, hb5, hm5⟩
      go_wp2_with fail
      refine (writebyte_walk w5 B B _ _ hb5 (by simp [showL]) (by have := hm5.size; omega) (by omega)).mono ?_
      rintro e w6 ⟨rfl, hb6, hm6⟩
      go_wp2_with fail
      go_roundw
      case rel => exact ⟨4, by omega, by go_num, hb6, (hm.trans hm5).trans hm6⟩
      case measure => simp [intOf]
    · have his := BAt.is (l := showL) hbt (Nat.le_refl _)
      go_wp2_with fail
      refine (Tryd.Builder_String_any B B showL wr his (by omega)).mono ?_
      rintro e w5 ⟨rfl, hb5⟩
      go_wp2_with fail
      go_ret
      refine ⟨rfl, (hm.trans (Mod.of_belowB hb5)).mono (fun z h h2 => ?_)⟩
      have h3 : B ≤ z := h2
      have := HB.out
      omega

theorem Rd.of_blk {w : World} {g : Nat} {zs : List Int} (h : Blk w g 5 (bv zs)) (xs ys : List Int) (he : zs = xs ++ ys) : Rd w (some ⟨g, 0, none⟩) (bv xs) := fun _ => by
  refine ⟨g, 0, rfl, h.lt, fun j u hu => ?_⟩
  rw [Nat.zero_add, h.cell j, he]
  have hj := (List.getElem?_eq_some_iff.1 hu).1
  rw [show bv (xs ++ ys) = bv xs ++ bv ys by simp [bv], List.getElem?_append_left hj]
  exact hu
/-- The example's report. -/
def repB (g : Nat) : List Value := [.int .u8 1, .int .u8 2, .int .u16 0, .int .u32 0, .slice (some ⟨g, 0, none⟩) 5 5]
def tellL : List UInt8 := [114, 101, 102, 117, 115, 101, 100, 32, 52, 32, 49, 56, 48, 51, 99, 48, 48, 48]
set_option maxHeartbeats 2000000 in
set_option maxRecDepth 100000 in
theorem outcome_walk (w : World) : Calls Tryd.prog 30 #[.int .u8 2] w fun e w' => e = .returned (.string ⟨#[114, 101, 102, 117, 115, 101, 100]⟩) ∧ w' = w := by
  go_enter Tryd.func30, Tryd.ntmps30
  go_wp2_with fail
  go_ret
  exact ⟨rfl, rfl⟩

set_option maxHeartbeats 2000000 in
set_option maxRecDepth 100000 in
theorem verified_walk (w : World) (hG : Glob w) (g : Nat) (hg : Blk w g 5 (bv [24, 3, 192, 0, 4])) :
    Calls Tryd.prog 22 #[.agg #[.int .u8 1, .int .u8 2, .int .u16 0, .int .u32 0, .slice (some ⟨g, 0, none⟩) 5 5]] w fun e w' => e = .returned (.tuple #[.string (bs tellL), .bool true]) ∧ Mod NoB w w' := by
  obtain ⟨w0, hw0⟩ : ∃ w0, w0 = w.alloc (.cells #[.int .u8 1, .int .u8 2, .int .u16 0, .int .u32 0, .slice (some ⟨g, 0, none⟩) 5 5] 44) := ⟨_, rfl⟩
  have hm0 : Mod NoB w w0 := by rw [hw0]; exact (Mod.refl _ _).alloc _
  have hq0 : Blk w0 w.heap.size 44 [.int .u8 1, .int .u8 2, .int .u16 0, .int .u32 0, .slice (some ⟨g, 0, none⟩) 5 5] := by rw [hw0]; exact Blk.new w _ _
  obtain ⟨q, hq⟩ : ∃ q, q = w.heap.size := ⟨_, rfl⟩
  rw [← hq] at hq0
  have HW0 := Lib.hid hw0
  have HQ := Lib.hid hq
  have c0 := hq0.cell 0
  have c1 := hq0.cell 1
  have c4 := hq0.cell 4
  have g4 := (hg.mod hm0 (fun h => h)).cell 4
  simp [bv] at c0 c1 c4 g4
  have SP4 := Lib.hid (fun (W : World) (x : Nat) (hm : Mod NoB w0 W) (hr : Rd W (some ⟨x, 0, none⟩) (bv (ints [4]))) => (spaced_walk W ((hG.nob hm0).nob hm) [114, 101, 102, 117, 115, 101, 100] (by decide) (some ⟨x, 0, none⟩) 1 [4] 1 rfl (by decide) hr (by decide)).mono (R' := fun e w' => e = .returned (.string ⟨#[114, 101, 102, 117, 115, 101, 100, 32, 52]⟩) ∧ Mod NoB W w') (by
    rintro e w' ⟨rfl, h⟩
    refine ⟨?_, h⟩
    simp [numbersL, Lib.decDigits_one, bs]))
  have SH := Lib.hid (fun (W : World) (hm : Mod NoB w0 W) => (shown_walk W (some ⟨g, 0, none⟩) 5 (Rd.of_blk ((hg.mod hm0 (fun h => h)).mod hm (fun h => h)) [24, 3, 192, 0] [4] rfl)).mono (R' := fun e w' => e = .returned (.string ⟨#[49, 56, 48, 51, 99, 48, 48, 48]⟩) ∧ Mod NoB W w') (by
    rintro e w' ⟨rfl, h⟩
    exact ⟨rfl, h⟩))
  have RN := Lib.hid (fun (W : World) => (Rd.of_blk (Blk.new W 5 (bv (ints [4]))) (ints [4]) [] rfl))
  have KEEP := Lib.hid (fun (W : World) (hm : Mod NoB w0 W) => And.intro (hm.cell c4 (fun h => h)) (hm.cell g4 (fun h => h)))
  clear hw0 hq
  go_enter Tryd.func22, Tryd.ntmps22
  go_wp2_with fail
  rw [← HW0.out, ← HQ.out]
  refine (outcome_walk w0).mono ?_
  rintro e w1 ⟨rfl, hw1⟩
  obtain rfl := hw1.symm
  go_wp2_with fail
  go_region_held3 (fun w' => w'.cell? ⟨q, 4, none⟩ = some (.slice (some ⟨g, 0, none⟩) 5 5) ∧ w'.cell? ⟨g, 4, none⟩ = some (.int .u8 4)) (first | exact KEEP.out _ (Mod.refl NoB w0).drew | exact KEEP.out _ ((Mod.refl NoB w0).drew.alloc _) | exact KEEP.out _ hk4 | exact KEEP.out _ hk5 | exact KEEP.out _ (hk5.alloc _))
    (first
      | (go_at_call 20
         refine (SP4.out _ _ (by first | exact (Mod.refl NoB w0).drew.alloc _ | exact hk5.alloc _ | exact hk5) (by first | exact RN.out _ | exact (RN.out _).nob hm5)).mono ?_
         rintro e w4 ⟨rfl, hm4⟩
         have hk4 : Mod NoB w0 w4 := (by first | exact ((Mod.refl NoB w0).drew.alloc _).trans hm4 | exact (hk5.alloc _).trans hm4 | exact hk5.trans hm4))
      | (go_at_call 31
         refine (SH.out _ (by first | exact (Mod.refl NoB w0).drew | exact (Mod.refl NoB w0).drew.alloc _ | exact hk4)).mono ?_
         rintro e w5 ⟨rfl, hm5⟩
         have hk5 : Mod NoB w0 w5 := (by first | exact (Mod.refl NoB w0).drew.trans hm5 | exact ((Mod.refl NoB w0).drew.alloc _).trans hm5 | exact hk4.trans hm5)))
  all_goals go_wp2_with fail
  all_goals go_ret2
  all_goals refine ⟨rfl, hm0.trans ?_⟩
  all_goals (first | exact hk4.trans hm5 | exact hk5.trans hm4 | exact (hk5.alloc _).trans hm4 | exact hk4 | exact hk5)
end Go.Proofs.YtjacllnmpenbmaaDoor
