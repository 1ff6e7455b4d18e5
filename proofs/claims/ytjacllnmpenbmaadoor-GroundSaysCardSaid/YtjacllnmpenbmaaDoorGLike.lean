/- The law's like, at commands that are alike. -/
import Derived.Test.YtjacllnmpenbmaaDoorGRSay
import Derived.Test.YtjacllnmpenbmaaDoorBytes
namespace Go.Proofs.YtjacllnmpenbmaaDoor
open Go Go.RowKit

set_option maxHeartbeats 1000000 in
theorem like_walk (w : World) (k v s o : Int) (a a' : Option Addr) (n c c' : Nat) (zs : List Int) (hz : zs.length = n) (hn : n ≤ 9223372036854775807) (hr : Rd w a (bv zs)) (hr' : Rd w a' (bv zs)) :
    Calls Tryd.prog 9 #[.agg #[.int .u8 k, .int .u8 v, .int .u8 s, .int .u16 o, .slice a n c], .agg #[.int .u8 k, .int .u8 v, .int .u8 s, .int .u16 o, .slice a' n c']] w fun e w' => e = .returned (.bool true) ∧ Mod NoB w w' := by
  have HS := Lib.hid (show ∀ w1, Mod NoB w w1 → Calls Tryd.prog 12 #[.slice a n c, .slice a' n c'] w1 fun e w' => e = .returned (.bool true) ∧ Mod NoB w1 w' from fun w1 hm =>
    (same_walk w1 a a' c c' zs zs n n hz hz hn (hr.nob hm) (hr'.nob hm)).mono (by rintro e w' ⟨rfl, h⟩; exact ⟨by simp, h⟩))
  have hm : Mod NoB w ((w.alloc (.cells #[.int .u8 k, .int .u8 v, .int .u8 s, .int .u16 o, .slice a n c] 25)).alloc (.cells #[.int .u8 k, .int .u8 v, .int .u8 s, .int .u16 o, .slice a' n c'] 32)) := ((Mod.refl _ _).alloc _).alloc _
  clear hz hr hr'
  go_enter Tryd.func9, Tryd.ntmps9
  go_wp2_with fail
  refine (HS.out _ hm).mono ?_
  rintro e w1 ⟨rfl, hm1⟩
  go_wp2_with fail
  go_ret
  exact ⟨rfl, hm.trans hm1⟩
end Go.Proofs.YtjacllnmpenbmaaDoor
