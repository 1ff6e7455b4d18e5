/- Tell at the document's example, awake. -/
import Derived.Test.YtjacllnmpenbmaaDoorGShown
namespace Go.Proofs.YtjacllnmpenbmaaDoor
open Go Go.RowKit

set_option maxHeartbeats 2000000 in
set_option maxRecDepth 100000 in
theorem tell_walk (w : World) (hG : Glob w) (g : Nat) (hg : Blk w g 5 (bv [24, 3, 192, 0, 4])) :
    Calls Tryd.prog 13 #[.agg #[.int .u8 1, .int .u8 2, .int .u16 0, .int .u32 0, .slice (some ⟨g, 0, none⟩) 5 5]] w fun e w' => e = .returned (.string (bs tellL)) ∧ Mod NoB w w' := by
  have hm0 : Mod NoB w (w.alloc (.cells #[.int .u8 1, .int .u8 2, .int .u16 0, .int .u32 0, .slice (some ⟨g, 0, none⟩) 5 5] 44)) := (Mod.refl _ _).alloc _
  have HV := Lib.hid (verified_walk _ (hG.nob hm0) g (hg.mod hm0 (fun h => h)))
  clear hG hg
  go_enter Tryd.func13, Tryd.ntmps13
  go_wp2_with fail
  refine HV.out.mono ?_
  rintro e w1 ⟨rfl, hm1⟩
  go_wp2_with fail
  go_ret
  exact ⟨rfl, hm0.trans hm1⟩

theorem sayS_heal : sayS [104, 101, 97, 108, 32, 51] = some (128, 2, [3]) := by decide +kernel

set_option maxHeartbeats 2000000 in
set_option maxRecDepth 100000 in
theorem awake_walk (w : World) (hG : Glob w) : Calls Tryd.prog 4 #[] w fun e w' => e = .returned (.bool true) ∧ Mod NoB w w' := by
  have HG := Lib.hid hG
  have HS := Lib.hid (say_walk w hG ⟨#[104, 101, 97, 108, 32, 51]⟩ (by decide))
  clear hG
  go_enter Tryd.func4, Tryd.ntmps4
  go_wp2_with fail
  refine HS.out.mono ?_
  rintro e w1 ⟨acks, sv, sub, err, a, n, c, ns, rfl, hown, hn, his, hm1⟩
  unfold SayIs at his
  rw [sayS_heal] at his
  obtain ⟨rfl, rfl, rfl, rfl, rfl⟩ := his
  obtain rfl : n = 1 := hn
  obtain ⟨g, o, rfl, hg, hc⟩ := (Rd.of_own hown).at_ (j := 0) (u := .int .u8 3) rfl
  have hc : w1.cell? ⟨g, o, none⟩ = some (.int .u8 3) := hc
  have d0 := fun ob => ((Mod.refl NoB w1).alloc ob).cell hc (fun h => h)
  have TL := Lib.hid (fun (W : World) (x : Nat) (hm : Mod NoB w W) hx => tell_walk W (HG.out.nob hm) x hx)
  have HB := Lib.hid (show ∀ o1, Blk ((w1.alloc o1).alloc (.cells #[.int .u8 24, .int .u8 3, .int .u8 192, .int .u8 0, .int .u8 4] 5)) (w1.heap.size + 1) 5 (bv [24, 3, 192, 0, 4]) from fun o1 => by
    have h := Blk.new (w1.alloc o1) 5 (bv [24, 3, 192, 0, 4])
    rw [show (w1.alloc o1).heap.size = w1.heap.size + 1 by simp] at h
    exact h)
  clear hown hc HS
  go_wp2_with fail
  refine (TL.out _ _ ((hm1.alloc _).alloc _) (HB.out _)).mono ?_
  rintro e w2 ⟨rfl, hm2⟩
  rw [show bs tellL = (⟨#[114, 101, 102, 117, 115, 101, 100, 32, 52, 32, 49, 56, 48, 51, 99, 48, 48, 48]⟩ : ByteArray) from rfl]
  go_wp2_with fail
  go_ret
  exact ⟨rfl, ((hm1.alloc _).alloc _).trans hm2⟩
end Go.Proofs.YtjacllnmpenbmaaDoor
