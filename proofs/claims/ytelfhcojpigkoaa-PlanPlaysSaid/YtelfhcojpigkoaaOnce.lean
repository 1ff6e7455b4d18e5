/- The law PlanOnce: the document's example. -/
import Derived.Test.YtelfhcojpigkoaaPlan3
namespace Go.Proofs.Ytelfhcojpigkoaa
open Go Go.RowKit

theorem PlanAt.alloc {B : Nat} {w : World} {p : Nat} {v : Value} {M : Nat} {ml : List (Int × Value)} {L : List It} {off : Bool} (h : PlanAt B w p v M ml L off) (o : Obj) : PlanAt B (w.alloc o) p v M ml L off :=
  h.mod ((Mod.refl NoB w).alloc o) (fun _ _ h => h)
theorem PlanAt.below {B : Nat} {w : World} {p : Nat} {v : Value} {M : Nat} {ml : List (Int × Value)} {L : List It} {off : Bool} (h : PlanAt B w p v M ml L off) (k : Nat) (hk : k < B) : ¬ foot p v M k := by
  rintro (rfl | rfl | h')
  · have := h.low.1; omega
  · have := h.low.2; omega
  · have := (h.own.lt k h').1; omega

set_option maxHeartbeats 2000000 in
theorem awake_walk (w : World) : Calls Try.prog 6 #[] w fun e w' => e = .returned (.bool true) ∧ Mod NoB w w' := by
  go_enter Try.func6, Try.ntmps6
  go_wp2_with fail
  refine (new_walk w).mono ?_
  rintro e w1 ⟨p, M, rfl, h1, hm1⟩
  go_wp2_with fail
  refine (insert_ok (h1.alloc (.cells #[Value.int .u8 1] 5)) 5 1 _ [.int .u8 1] (by simp) rfl (by simp) (by omega) (.inr ⟨_, _, rfl, (Blk.new w1 5 [.int .u8 1]).arr 0⟩) (by intro u hu; simp at hu; subst hu; rfl)).mono ?_
  rintro e w2 ⟨rfl, v2, tv2, h2, hm2, -⟩
  go_wp2_with fail
  refine (insert_ok (h2.alloc (.cells #[Value.int .u8 2] 5)) 3 2 _ [.int .u8 2] (by simp) rfl (by simp [insAt_length]) (by omega) (.inr ⟨_, _, rfl, (Blk.new w2 5 [.int .u8 2]).arr 0⟩) (by intro u hu; simp at hu; subst hu; rfl)).mono ?_
  rintro e w3 ⟨rfl, v3, tv3, h3, hm3, -⟩
  go_wp2_with fail
  refine (enabled_walk h3).mono ?_
  rintro e w4 ⟨rfl, hw4⟩
  obtain rfl := hw4.symm
  go_wp2_with fail
  refine (due_on h3 4 (by omega)).mono ?_
  have hL : insAt (insAt [] ⟨5, 1, tv2, [.int .u8 1]⟩) ⟨3, 2, tv3, [.int .u8 2]⟩ = [⟨3, 2, tv3, [.int .u8 2]⟩, ⟨5, 1, tv2, [.int .u8 1]⟩] := rfl
  have hN : lateN (times [⟨3, 2, tv3, [.int .u8 2]⟩, ⟨5, 1, tv2, [.int .u8 1]⟩]) 4 = 1 := rfl
  rw [hL, hN]
  rintro e w5 ⟨out, v5, rfl, ho5, -, h5, ht5, hm5, -⟩
  have hx := (ht5 ⟨3, 2, tv3, [.int .u8 2]⟩ (by simp)).1
  rcases ho5.2 with ⟨_, h0⟩ | ⟨g, cap, cur, rfl, -⟩
  · omega
  rcases hx.2 with ⟨_, h0⟩ | ⟨gx, capx, curx, hgx, -⟩
  · simp at h0
  simp only at hgx
  subst hgx
  have c0 := ho5.cellAt 0 (by omega)
  have c1 := World.ownsRow.cellAt hx 0 (by simp)
  simp [dueVals] at c0 c1
  have hl := len_walk h5
  simp at hl
  have HL := Lib.hid hl
  clear hl
  go_wp2_with fail
  refine HL.out.mono ?_
  rintro e w6 ⟨rfl, hw6⟩
  obtain rfl := hw6.symm
  go_wp2_with fail
  go_ret
  have b1 := h1.low
  refine ⟨rfl, ?_⟩
  have i2 : Mod NoB w w2 := (hm1.alloc _).trans' hm2 (fun k hk e => absurd e ((h1.alloc (.cells #[Value.int .u8 1] 5)).below k hk))
  have i3 : Mod NoB w w3 := (i2.alloc _).trans' hm3 (fun k hk e => absurd e ((h2.alloc (.cells #[Value.int .u8 2] 5)).below k hk))
  exact i3.trans' hm5 (fun k hk e => absurd e (h3.below k hk))
end Go.Proofs.Ytelfhcojpigkoaa
