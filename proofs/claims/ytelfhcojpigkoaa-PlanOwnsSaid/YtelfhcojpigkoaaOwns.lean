/- The law PlanOwns: its walk. -/
import Derived.Test.YtelfhcojpigkoaaPlan4
namespace Go.Proofs.Ytelfhcojpigkoaa
open Go Go.RowKit

theorem bv_set (zs : List Int) (j : Nat) (z : Int) : (bv zs).set j (.int .u8 z) = bv (zs.set j z) := by simp [bv, List.map_set]

set_option maxHeartbeats 4000000 in
theorem owns_walk (w : World) (a : Option Addr) (n c : Nat) (zs : List Int) (hz : zs.length = n) (hn : n ≤ 9223372036854775807) (hr : Rd w a (bv zs))
    (d t id : Int) (x : Option Addr) (xn xc : Nat) (by_ : Int) (on : Bool) (hd : 0 ≤ d ∧ d ≤ 255) (xs : List Int) (hxs : xs.length = xn) (hxn : xn ≤ 9223372036854775807) (hxr : Rd w x (bv xs)) :
    Calls Try.prog 5 #[.slice a n c, .agg #[.int .u8 d, .int .u32 t, .int .u16 id, .slice x xn xc, .int .i32 by_, .bool on]] w fun e w' => e = .returned (.bool true) ∧ Mod NoB w w' := by
  obtain ⟨m, hm⟩ : ∃ m, m = min 40 n := ⟨_, rfl⟩
  obtain ⟨ys, hys⟩ : ∃ ys, ys = zs.take 40 := ⟨_, rfl⟩
  have hyl : ys.length = m := by rw [hys, hm, List.length_take, hz]
  have hm40 : m ≤ 40 := by omega
  have hmm : min 40 m = m := by omega
  have hyt : ys.take 40 = ys := List.take_of_length_le (by omega)
  have hbox : Mod NoB w (w.alloc (.cells #[Value.int .u8 d, .int .u32 t, .int .u16 id, .slice x xn xc, .int .i32 by_, .bool on] 41)) := (Mod.refl _ _).alloc _
  have hbb := Blk.new w 41 [Value.int .u8 d, .int .u32 t, .int .u16 id, .slice x xn xc, .int .i32 by_, .bool on]
  have HM := Lib.hid hm
  have HY := Lib.hid hys
  have HYT := Lib.hid hyt
  have HMM := Lib.hid hmm
  have HYL := Lib.hid hyl
  clear hm hys hyt hmm hyl
  go_enter Try.func5, Try.ntmps5
  go_wp2_with fail
  refine (awake_walk _).mono ?_
  rintro e w1 ⟨rfl, hm1⟩
  have h01 := hbox.trans hm1
  go_wp2_with fail
  refine (cut_walk w1 a n c zs 40 hz hn (by omega) (hr.nob h01)).mono ?_
  rw [← HM.out, ← HY.out]
  rintro e w2 ⟨a2, c2, rfl, ho2, hm2⟩
  have h02 := h01.trans hm2
  go_wp2_with fail
  refine (cut_walk w2 a2 m c2 ys 40 HYL.out (by omega) (by omega) (Rd.of_own ho2)).mono ?_
  rw [HMM.out, HYT.out]
  rintro e w3 ⟨a3, c3, rfl, ho3, hm3⟩
  have h03 := h02.trans hm3
  have ho23 := hm3.own ho2 (fun _ _ h => h)
  go_wp2_with fail
  refine (new_walk w3).mono ?_
  rintro e w4 ⟨p, M, rfl, hP4, hm4⟩
  have h04 := h03.trans hm4
  have ho24 := hm4.own ho23 (fun _ _ h => h)
  have ho34 := hm4.own ho3 (fun _ _ h => h)
  go_wp2_with fail
  have hap : ∀ k, k < w3.heap.size → ¬ foot p (.slice none 0 0) M k := fun k hk => hP4.below k hk
  refine (insert_ok hP4 1 1 (.slice a3 m c3) (bv ys) (by rw [bv_length, HYL.out]; omega) rfl (by simp) (by omega) (by
    rw [bv_length, HYL.out]
    rcases ho34.2 with ⟨h, h0⟩ | ⟨g, cap, cur, h, -⟩
    · left
      refine ⟨h, ?_⟩
      have := HYL.out
      rw [h0] at this
      rw [List.eq_nil_of_length_eq_zero this]; rfl
    · cases h
      right
      exact ⟨_, _, rfl, (Rd.of_own ho34).arr⟩) (bv_ones ys)).mono ?_
  rintro e w5 ⟨rfl, v5, tv5, hP5, hm5, -⟩
  have hL : insAt [] ⟨1, 1, tv5, bv ys⟩ = [⟨1, 1, tv5, bv ys⟩] := rfl
  rw [hL] at hP5
  have h45 : ∀ k, k < w3.heap.size → ¬ foot p (.slice none 0 0) M k := hap
  have h05 : Mod NoB w w5 := h04.trans' hm5 (fun k hk e => hap k (by have := h03.size; omega) e)
  have lt2 : ∀ g, (Value.slice a2 m c2).ownBlock = some g → g < w3.heap.size := fun g hg => own_lt ho23 hg
  have lt3 : ∀ g, (Value.slice a3 m c3).ownBlock = some g → g < w3.heap.size := fun g hg => own_lt ho3 hg
  have ho25 := hm5.own ho24 (fun g hg => hap g (lt2 g hg))
  have ho35 := hm5.own ho34 (fun g hg => hap g (lt3 g hg))
  have hb5 := ((hbb.mod hm1 (fun h => h)).mod (hm2.trans (hm3.trans hm4)) (fun h => h)).mod hm5 (hap _ (by have := hm1.size; have := hm2.size; have := hm3.size; simp at *; omega))
  clear hap hbb hbox
  go_wp2_with fail
  go_loopw [29] (fun i wr => ∃ (k : Nat) (ws : List Int), k ≤ m ∧ i = .int .i64 k ∧ ws.length = m ∧ wr.ownsRow w2.heap.size 5 1 (.slice a3 m c3) m (bv ws) ∧ Mod (fun k => (Value.slice a3 m c3).ownBlock = some k) w5 wr) (fun i _ => m - (intOf i).toNat)
  case atStart => exact ⟨0, ys, Nat.zero_le _, rfl, HYL.out, ho35, Mod.refl _ _⟩
  case round =>
    obtain ⟨k, ws, hk, rfl, hws, how, hmw⟩ := hrel
    by_cases hlt : k < m
    · obtain ⟨g, rfl⟩ : ∃ g, a3 = some ⟨g, 0, none⟩ := by
        rcases how.2 with ⟨h, h0⟩ | ⟨g, cap, cur, h, -⟩
        · omega
        · cases h; exact ⟨g, rfl⟩
      have hkw : k < ws.length := by omega
      have e0 := how.cellAt k (by omega)
      rw [bv_get hkw] at e0
      have f0 := how.frozenAt k
      obtain ⟨z, hz'⟩ : ∃ z, z = ws[k] := ⟨_, rfl⟩
      rw [← hz'] at e0
      have HW := Lib.hid hws
      clear hz' hws
      go_wp2_with fail
      go_roundw
      case rel =>
        refine ⟨k + 1, ws.set k ?z, by omega, by go_num, by simp [HW.out], ?own, hmw.setCell _ (fun _ => rfl)⟩
        case own => rw [← bv_set]; exact (how.stored k _).1
      case measure => simp [intOf]; exact Nat.sub_lt_sub_left hlt (Nat.lt_succ_self k)
    · obtain rfl : k = m := by omega
      clear hlt
      obtain ⟨wo, rfl⟩ : ∃ wo : World, wo = wr := ⟨_, rfl⟩
      have hSB : ∀ k', w3.heap.size ≤ k' → ¬ (Value.slice a3 k c3).ownBlock = some k' := fun k' hk' e => by have := lt3 k' e; omega
      have hP6 := hP5.mod hmw hSB
      have h2ne : ∀ g, (Value.slice a2 k c2).ownBlock = some g → ¬ (Value.slice a3 k c3).ownBlock = some g := fun g hg e => by
        have := (ho35.lt g e).1
        have := own_lt ho2 hg
        omega
      have ho26 := hmw.own ho25 h2ne
      have hb6 := hb5.mod hmw (fun e => own_ne_blk ho35 hb5 (by decide) e)
      have h06 : Mod NoB w wo := h05.trans' hmw (fun k' hk' e => by have := (ho35.lt k' e).1; have := h02.size; omega)
      clear how hmw hws ho25 ho24 ho23 ho34 ho35 ho3 hb5 h05 hP4 hP5
      go_wp2_with fail
      refine (all_walk hP6).mono ?_
      rintro e w7 ⟨a7, c7, L7, rfl, ho7, hL7, hcp, hm7⟩
      have hP7 := hP6.mod hm7 (fun _ _ h => h)
      have ho27 := hm7.own ho26 (fun _ _ h => h)
      have hb7 := hb6.mod hm7 (fun h => h)
      have h07 := h06.trans hm7
      obtain ⟨y, rfl⟩ : ∃ y, L7 = [y] := by
        match L7, hL7 with
        | [y], _ => exact ⟨y, rfl⟩
      have hcy := hcp 0 _ y rfl rfl
      simp only [List.length_singleton] at ho7 ⊢
      rcases ho7.2 with ⟨h, h0⟩ | ⟨g7, cap7, cur7, h, -⟩
      · omega
      cases h
      have e2 := ho7.cellAt 2 (by omega)
      obtain ⟨ay, cy, hyv⟩ := own_slice hcy.2.2.2.1
      simp [flat, It.cells, hyv, hcy.2.2.1, bv_length, HYL.out] at e2
      have hty := hcy.2.2.2.1
      rw [hyv, hcy.2.2.1, bv_length, HYL.out] at hty
      go_wp2_with fail
      have hx7 : g7 < w7.heap.size := own_lt ho7 rfl
      have hne7 : ∀ g', ay = some ⟨g', 0, none⟩ → ¬ g' = g7 := fun g' hg e => own_ne_own hty ho7 (by decide) g' (by rw [hg]; rfl) (by rw [e]; rfl)
      go_loopw [46] (fun i wl => ∃ (j : Nat) (ws : List Int), j ≤ k ∧ i = .int .i64 j ∧ ws.length = k ∧ wl.ownsRow wo.heap.size 5 1 (.slice ay k cy) k (bv ws) ∧ Mod (fun k' => (Value.slice ay k cy).ownBlock = some k') w7 wl) (fun i _ => k - (intOf i).toNat)
      case atStart => exact ⟨0, ys, Nat.zero_le _, rfl, HYL.out, hty, Mod.refl _ _⟩
      case round =>
        obtain ⟨j, ws, hj, rfl, hws, how, hmw⟩ := hrel
        by_cases hlt : j < k
        · obtain ⟨g, rfl⟩ : ∃ g, ay = some ⟨g, 0, none⟩ := by
            rcases how.2 with ⟨h, h0⟩ | ⟨g, cap, cur, h, -⟩
            · omega
            · cases h; exact ⟨g, rfl⟩
          have hkw : j < ws.length := by omega
          have e0 := how.cellAt j (by omega)
          rw [bv_get hkw] at e0
          have f0 := how.frozenAt j
          have e3 := hmw.cell e2 (fun e => hne7 g rfl (by cases e; rfl))
          obtain ⟨z, hz'⟩ : ∃ z, z = ws[j] := ⟨_, rfl⟩
          rw [← hz'] at e0
          have HW := Lib.hid hws
          clear hz' hws
          go_wp2_with fail
          go_roundw
          case rel =>
            refine ⟨j + 1, ws.set j ?z2, by omega, by go_num, by simp [HW.out], ?own2, hmw.setCell _ (fun _ => rfl)⟩
            case own2 => rw [← bv_set]; exact (how.stored j _).1
          case measure => simp [intOf]; exact Nat.sub_lt_sub_left hlt (Nat.lt_succ_self j)
        · obtain rfl : j = k := by omega
          clear hlt
          have h67 : Mod NoB wo wr := (hm7.trans' (T := fun k' => (Value.slice ay j cy).ownBlock = some k') hmw (fun k' hk' e => by have := (hty.lt k' e).1; omega))
          have hP8 := hP6.mod h67 (fun _ _ h => h)
          have ho28 := h67.own ho26 (fun _ _ h => h)
          have hb8 := hb6.mod h67 (fun h => h)
          have h08 : Mod NoB w wr := h06.trans h67
          clear how hmw hws hP6 hP7 ho26 ho27 hb6 hb7 h06 h07 hm7 h67 hty ho7 hcp hcy e2 hne7
          have b3 := hb8.cell 3
          have b0 := hb8.cell 0
          simp at b0 b3
          go_wp2_with fail
          refine (cut_walk wr x xn xc xs 20 hxs hxn (by omega) (hxr.nob h08)).mono ?_
          rintro e w9 ⟨a9, c9, rfl, ho9, hm9⟩
          have hb9 := hb8.mod hm9 (fun h => h)
          have hP9 := hP8.mod hm9 (fun _ _ h => h)
          have ho29 := hm9.own ho28 (fun _ _ h => h)
          obtain ⟨m9, hm9'⟩ : ∃ m9, m9 = min 20 xn := ⟨_, rfl⟩
          rw [← hm9'] at ho9 ⊢
          have q0 := hb9.cell 0
          have q1 := hb9.cell 1
          have q2 := hb9.cell 2
          have q3 := hb9.cell 3
          have q4 := hb9.cell 4
          have q5 := hb9.cell 5
          have qf := hb9.frozen 3
          simp at q0 q1 q2 q3 q4 q5
          have h09 : Mod NoB w w9 := h08.trans hm9
          have hb10 := hb9.setCell 3 (.slice a9 m9 c9)
          have hset : Mod (· = w.heap.size) w9 (w9.setCell ⟨w.heap.size, 3, none⟩ (.slice a9 m9 c9)) := (Mod.refl _ _).setCell _ (fun _ => rfl)
          have hP10 : PlanAt w3.heap.size (w9.setCell ⟨w.heap.size, 3, none⟩ (.slice a9 m9 c9)) p v5 M ([] ++ [(1, .bool true)]) [⟨1, 1, tv5, bv ys⟩] false := hP9.mod hset (fun k' hk' e => by have i1 := hm1.size; have := hm2.size; have := hm3.size; simp at i1; omega)
          clear hm9'
          go_wp2_with fail
          refine (do_nilp _ d t id a9 m9 c9 by_ on hd).mono ?_
          rintro e w10 ⟨r, rfl, hr10, hm10⟩
          have hP11 := hP10.mod hm10 (fun _ _ h => h)
          have h2set : ∀ g, (Value.slice a2 j c2).ownBlock = some g → ¬ g = w.heap.size := fun g hg e => own_ne_blk ho29 hb9 (by decide) (by rw [hg, e])
          have ho210 := hm10.own (hset.own ho29 h2set) (fun _ _ h => h)
          have hb11 := hb10.mod hm10 (fun h => h)
          have h010 : Mod NoB w w10 := (h09.trans' hset (fun k' hk' e => by omega)).trans hm10
          have z0 := hb11.cell 0
          simp at z0
          have hdue := due_on hP11 1 (by omega)
          have hN : lateN (times [⟨1, 1, tv5, bv ys⟩]) 1 = 1 := rfl
          rw [hN] at hdue
          have HDUE := Lib.hid hdue
          have hall : ∀ (W : World), Calls Try.prog 17 #[.pointer none] W fun e w' => e = .returned (.slice none 0 0) ∧ w' = W := all_nilp
          clear hdue hN hP9 hP8 hP10 ho28 ho29 hb8 hb9 hb10 b0 b3 q0 q1 q2 q3 q4 q5 qf hset h08 h09 hm9 hm10 ho9
          by_cases hd4 : d % 8 < 4
          all_goals
            first | rw [if_pos hd4] at hr10 | rw [if_neg hd4] at hr10
            subst hr10
            go_wp2_with fail
            refine (next_nilp _).mono ?_
            rintro e w11 ⟨rfl, h⟩
            obtain rfl := h.symm
            go_wp2_with fail
            refine HDUE.out.mono ?_
            rintro e w12 ⟨out, v12, rfl, ho12, -, hP12, ht12, hm12, -⟩
            have hx := (ht12 ⟨1, 1, tv5, bv ys⟩ (by simp)).1
            rcases ho12.2 with ⟨_, h0⟩ | ⟨g, cap, cur, rfl, -⟩
            · omega
            obtain ⟨ax, cx, hax⟩ := own_slice hx
            have y0 := ho12.cellAt 0 (by omega)
            simp only [bv_length, HYL.out] at hx hax
            subst hax
            simp [dueVals] at y0
            have hnf : ∀ g, (Value.slice a2 j c2).ownBlock = some g → ¬ foot p v5 M g := fun g hg => hP11.below g (lt2 g hg)
            have ho212 := hm12.own ho210 hnf
            have hsame := same_walk w12 ax a2 cx c2 ys ys j j HYL.out HYL.out (by omega) (Rd.of_own hx) (Rd.of_own ho212)
            simp only [decide_true] at hsame
            have HS := Lib.hid hsame
            have hfin : Mod NoB w w12 := h010.trans' hm12 (fun k' hk' e => hP11.below k' (by have := h03.size; omega) e)
            clear hsame
            go_wp2_with fail
            refine HS.out.mono ?_
            rintro e w13 ⟨rfl, hm13⟩
            go_wp2_with fail
            refine (all_nilp _).mono ?_
            rintro e w14 ⟨rfl, h⟩
            obtain rfl := h.symm
            go_wp2_with fail
            refine (len_nil _).mono ?_
            rintro e w15 ⟨rfl, h⟩
            obtain rfl := h.symm
            go_wp2_with fail
            refine (between_nilp _ _ _).mono ?_
            rintro e w16 ⟨rfl, hm16⟩
            go_wp2_with fail
            refine (enabled_nil _).mono ?_
            rintro e w17 ⟨rfl, h⟩
            obtain rfl := h.symm
            go_wp2_with fail
            go_ret
            exact ⟨by first | rfl | (show Ending.returned (Value.bool (!decide (d % 8 < 4))) = _; simp; omega), (hfin.trans hm13).trans hm16⟩
end Go.Proofs.Ytelfhcojpigkoaa
