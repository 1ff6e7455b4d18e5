/- The law PlanOnce: its walk. -/
import Derived.Test.YtelfhcojpigkoaaOnce
namespace Go.Proofs.Ytelfhcojpigkoaa
open Go Go.RowKit

/-- An item of this law: its command says its time and its number. -/
def OnceIt (k : Nat) (x : It) : Prop := x.tc = [.int .u8 x.t, .int .u8 x.id] ∧ 0 ≤ x.t ∧ x.t ≤ 255 ∧ 0 ≤ x.id ∧ x.id < k

def trues (ks : List Int) : List (Int × Value) := ks.map fun a => (a, .bool true)
theorem mget_trues (ks : List Int) (b : Int) : mget (trues ks) b = if b ∈ ks then some (.bool true) else none := by
  induction ks with
  | nil => rfl
  | cons a ks ih =>
    unfold mget trues at *
    rw [List.map_cons, List.find?_cons]
    by_cases hab : a = b
    · subst hab; simp
    · have : (a == b) = false := by simpa using hab
      simp only [this]
      rw [ih]
      simp [Ne.symm hab]
theorem trues_snoc (ks : List Int) (a : Int) : trues ks ++ [(a, .bool true)] = trues (ks ++ [a]) := by simp [trues]
theorem Try.under5 : Try.prog.underlying 5 = some (.int .u8) := by kernel_rfl

/-- What holds at the head of a cycle. -/
def CycleAt (B : Nat) (N : Nat) (inc : Int) (p M M2 : Nat) (now last : Int) (wr : World) : Prop :=
  ∃ (v : Value) (ml : List (Int × Value)) (L : List It) (ks : List Int), PlanAt B wr p v M ml L false ∧ MapAt wr M2 .u8 (trues ks) ∧ ks.length + L.length = N ∧
    ∀ x ∈ L, OnceIt N x ∧ last ≤ x.t ∧ now < x.t + inc ∧ x.id ∉ ks

set_option maxHeartbeats 4000000 in
theorem once_walk (w : World) (a : Option Addr) (n c : Nat) (zs : List Int) (hz : zs.length = n) (hzr : ∀ z ∈ zs, 0 ≤ z ∧ z ≤ 255) (hn : n ≤ 140737488355328) (s : Int) (hs : 0 ≤ s ∧ s ≤ 255)
    (hr : ∀ j, j < n → ∃ b o, a = some ⟨b, o, none⟩ ∧ b < w.heap.size ∧ w.cell? ⟨b, o + j, none⟩ = some (.int .u8 (zs.getD j 0))) :
    Calls Try.prog 3 #[.slice a n c, .int .u8 s] w fun e w' => e = .returned (.bool true) ∧ Mod NoB w w' := by
  have HZ := Lib.hid hz
  clear hz
  go_enter Try.func3, Try.ntmps3
  go_wp2_with fail
  refine (awake_walk w).mono ?_
  rintro e w1 ⟨rfl, hm1⟩
  go_wp2_with fail
  refine (new_walk w1).mono ?_
  rintro e w2 ⟨p, M, rfl, h2, hm2⟩
  have hm02 : Mod NoB w w2 := hm1.trans hm2
  go_wp2_with fail
  go_loopw [6, 19] (fun q i wr => ∃ (k : Nat) (v : Value) (ml : List (Int × Value)) (L : List It), k ≤ n ∧ i = .int .i64 k ∧ q = .int .i64 (min k 32 : Nat) ∧ PlanAt w1.heap.size wr p v M ml L false ∧ L.length = min k 32 ∧ (∀ x ∈ L, OnceIt (min k 32) x) ∧ Mod NoB w wr)
    (fun _ i _ => n - (intOf i).toNat)
  case atStart => exact ⟨0, _, _, _, Nat.zero_le _, rfl, rfl, h2, rfl, by simp, hm02⟩
  case round =>
    obtain ⟨k, v, ml, L, hk, rfl, rfl, hP, hLk, hLi, hm⟩ := hrel
    by_cases hlt : k < n
    · obtain ⟨b, o, rfl, hb, hck⟩ := hr k hlt
      have hck' := hm.cell hck (fun h => h)
      obtain ⟨z, hz⟩ : ∃ z, z = zs.getD k 0 := ⟨_, rfl⟩
      rw [← hz] at hck'
      have hzr' : 0 ≤ z ∧ z ≤ 255 := by
        have hkz : k < zs.length := by rw [HZ.out]; exact hlt
        rw [hz, List.getD_eq_getElem?_getD, List.getElem?_eq_getElem hkz]
        exact hzr _ (List.getElem_mem _)
      obtain ⟨hz0, hz1⟩ := hzr'
      clear hr hck hz
      by_cases h32 : k < 32
      · have hid : L.any (fun x => x.id == (k : Int)) = false := by
          rw [List.any_eq_false]
          intro x hx he
          have := (hLi x hx).2.2.2.2
          simp at he
          omega
        have hL32 : L.length < 32 := by omega
        have HLk := Lib.hid hLk
        have HID := Lib.hid hid
        clear hLk hid
        go_wp2_with fail
        refine (insert_ok (hP.alloc (.cells #[Value.int .u8 z, .int .u8 k] 5)) z k _ [.int .u8 z, .int .u8 k] (by simp) HID.out hL32 (by omega) (.inr ⟨_, _, rfl, (Blk.new wr 5 [.int .u8 z, .int .u8 k]).arr 0⟩) (by intro u hu; simp at hu; rcases hu with rfl | rfl <;> rfl)).mono ?_
        rintro e w3 ⟨rfl, v3, tv3, h3, hm3, -⟩
        go_wp2_with fail
        go_roundw
        case rel =>
          refine ⟨k + 1, v3, _, _, by omega, by go_num, ?_, h3, ?_, ?_, (hm.alloc _).trans' hm3 (fun k' hk' e => ?_)⟩
          · congr 1; omega
          · rw [insAt_length, HLk.out]; omega
          · intro x hx
            rcases insAt_mem hx with hx | rfl
            · have := hLi x hx
              exact ⟨this.1, this.2.1, this.2.2.1, this.2.2.2.1, by have := this.2.2.2.2; omega⟩
            · exact ⟨rfl, hz0, hz1, by simp, by simp; omega⟩
          · have := hm1.size
            exact absurd e ((hP.alloc (.cells #[Value.int .u8 z, .int .u8 k] 5)).below k' (by omega))
        case measure => simp [intOf]; omega
      · have hmin : min k 32 = min (k + 1) 32 := by omega
        go_wp2_with fail
        go_roundw
        case rel => exact ⟨k + 1, v, ml, L, by omega, by go_num, by rw [hmin], hP, by omega, fun x hx => by have := hLi x hx; rwa [hmin] at this, hm⟩
        case measure => simp [intOf]; omega
    · obtain rfl : k = n := by omega
      obtain ⟨N, hN⟩ : ∃ N, N = min k 32 := ⟨_, rfl⟩
      have hN32 : N ≤ 32 := by omega
      rw [← hN] at hLk hLi ⊢
      clear hN hr hzr hn
      have hmm := @run_makeMap Try.prog
      have hp0 := hP.alloc (.map #[] 0)
      have hq0 := MapAt.new wr .u8
      have hm0 := hm.alloc (.map #[] 0)
      have hMlt : M < wr.heap.size := hP.map.lt
      obtain ⟨M2, hM2⟩ : ∃ M2, M2 = wr.heap.size := ⟨_, rfl⟩
      obtain ⟨W0, hW0⟩ : ∃ W0, W0 = wr.alloc (.map #[] 0) := ⟨_, rfl⟩
      rw [← hM2] at hq0 hMlt
      rw [← hW0] at hp0 hq0 hm0
      have hBM2 : w1.heap.size ≤ M2 := by have := hP.low.2; omega
      have hmm' : (Instr.makeMap 30 none).run Try.prog wr = .ok (.map (some M2)) W0 := by rw [hM2, hW0]; rfl
      clear hmm hm hP hM2 hW0
      go_wp2_with fail
      obtain ⟨inc, hinc⟩ : ∃ inc : Int, inc = 1 + s % 7 := ⟨_, rfl⟩
      have hinc1 : 1 ≤ inc ∧ inc ≤ 7 := by omega
      go_loopw [10, 11] (fun q i wr => ∃ now last : Int, i = .int .i64 now ∧ q = .int .u8 last ∧ 0 ≤ now ∧ now ≤ 600 ∧ 0 ≤ last ∧ last ≤ 255 ∧ CycleAt w1.heap.size N inc p M M2 now last wr ∧ Mod NoB w wr)
        (fun _ i _ => (600 - intOf i).toNat)
      case atStart =>
        refine ⟨0, 0, rfl, rfl, by omega, by omega, by omega, by omega, ⟨v, ml, L, [], hp0, hq0, by simpa using hLk, fun x hx => ⟨hLi x hx, (hLi x hx).2.1, ?_, by simp⟩⟩, hm0⟩
        have := (hLi x hx).2.1; omega
      case round =>
        clear hp0 hq0 hm0 hLk hLi
        obtain ⟨now, last, rfl, rfl, hn0, hn6, hl0, hl2, ⟨v1, ml1, L1, ks, hP, hS, hcnt, hall⟩, hm⟩ := hrel
        by_cases hnow : now ≤ 255 + s
        · obtain ⟨kk, hkk⟩ : ∃ kk, kk = lateN (times L1) now := ⟨_, rfl⟩
          go_wp2_with fail
          refine (due_on hP now (by omega)).mono ?_
          rw [← hkk]
          rintro e wD ⟨out, v', rfl, hout, hnil, hPD, htD, hmD, hbD⟩
          have hkL : kk ≤ L1.length := by rw [hkk]; have := lateN_le (times L1) now; simpa [times] using this
          have hsp := late_split (times L1) now hP.srt
          rw [← hkk] at hsp
          have hD1 : ∀ x ∈ L1.take kk, x.t ≤ now := fun x hx => hsp.1 x.t (by unfold times; rw [← List.map_take]; exact List.mem_map.2 ⟨x, hx, rfl⟩)
          have hD2 : ∀ x ∈ L1.drop kk, now < x.t := fun x hx => hsp.2 x.t (by unfold times; rw [← List.map_drop]; exact List.mem_map.2 ⟨x, hx, rfl⟩)
          have hMM : ¬ M = M2 := by omega
          have hpM2 : ¬ p = M2 := fun e => hS.ne_blk hP.blk e.symm
          have hSD : MapAt wD M2 .u8 (trues ks) := hS.mod hmD (by
            rintro (e | e | e)
            · exact hpM2 e.symm
            · exact hMM e.symm
            · exact own_ne_map hP.own hS e)
          obtain ⟨ao, co, rfl⟩ := own_slice hout
          have hco := (own_len hout).2
          have hkk32 : kk ≤ 32 := by have := hP.few; omega
          clear hsp hkk hnil
          go_wp2_with fail
          go_loopw [10, 57] (fun q i wr' => ∃ (j : Nat) (lj : Int), j ≤ kk ∧ i = .int .i64 j ∧ q = .int .u8 lj ∧ 0 ≤ lj ∧ lj ≤ 255 ∧ (∀ x ∈ L1.drop j, lj ≤ x.t) ∧ MapAt wr' M2 .u8 (trues (ks ++ (L1.take j).map It.id)) ∧ Mod (· = M2) wD wr')
            (fun _ i _ => kk - (intOf i).toNat)
          case atStart => exact ⟨0, last, Nat.zero_le _, rfl, rfl, hl0, hl2, fun x hx => (hall x (by simpa using hx)).2.1, by simpa using hSD, Mod.refl _ _⟩
          case round =>
            obtain ⟨j, lj, hj, rfl, rfl, hlj0, hlj2, hljx, hSj, hmj⟩ := hrel
            by_cases hjk : j < kk
            · have hjL : j < L1.length := by omega
              obtain ⟨x, hxe⟩ : ∃ x, x = L1[j] := ⟨_, rfl⟩
              have hxj : L1[j]? = some x := by rw [hxe]; simp
              have hxm : x ∈ L1 := List.mem_of_getElem? hxj
              have hxD : x ∈ L1.take kk := by
                have : (L1.take kk)[j]? = some x := by rw [List.getElem?_take, if_pos hjk]; exact hxj
                exact List.mem_of_getElem? this
              have htx := (htD x hxD).1
              have hx1 := hD1 x hxD
              have hxO := (hall x hxm).1
              have hdrop : x ∈ L1.drop j := List.mem_of_getElem? (i := 0) (by simpa using hxj)
              have hx2 := hljx x hdrop
              rw [hxO.1] at htx
              rcases htx.2 with ⟨_, h0⟩ | ⟨gx, capx, curx, hgx, -⟩
              · simp at h0
              rcases hout.2 with ⟨_, h0⟩ | ⟨g, cap, cur, hg, -⟩
              · omega
              cases hg
              have d0 := hout.cellAt j (by omega)
              have hdv : (dueVals (L1.take kk))[j]? = some x.v := by simp [dueVals, List.getElem?_take, hjk, hxj]
              rw [hdv, hgx] at d0
              rw [hgx] at htx
              have x0 := World.ownsRow.cellAt htx 0 (by simp)
              have x1 := World.ownsRow.cellAt htx 1 (by simp)
              have hgM : ¬ g = M2 := fun e => own_ne_map hout hSD (by rw [← e]; rfl)
              have hgxM : ¬ gx = M2 := fun e => own_ne_map htx hSD (by rw [← e]; rfl)
              have e0 := hmj.cell d0 hgM
              have f0 := hmj.cell x0 hgxM
              have f1 := hmj.cell x1 hgxM
              simp at e0 f0 f1
              obtain ⟨xt, hxt⟩ : ∃ xt, xt = x.t := ⟨_, rfl⟩
              obtain ⟨xi, hxi⟩ : ∃ xi, xi = x.id := ⟨_, rfl⟩
              rw [← hxt] at f0 hx1 hx2
              rw [← hxi] at f1
              have hxt0 : 0 ≤ xt := by rw [hxt]; exact hxO.2.1
              have hxt2 : xt ≤ 255 := by rw [hxt]; exact hxO.2.2.1
              have hnotin : xi ∉ ks ++ (L1.take j).map It.id := by
                rw [List.mem_append]
                rintro (h1 | h1)
                · exact (hall x hxm).2.2.2 (by rw [← hxi]; exact h1)
                · obtain ⟨y, hy, hye⟩ := List.mem_map.1 h1
                  have hu := hP.uniq
                  rw [← List.take_append_drop j L1, List.map_append, List.nodup_append] at hu
                  exact hu.2.2 y.id (List.mem_map.2 ⟨y, hy, rfl⟩) x.id (List.mem_map.2 ⟨x, hdrop, rfl⟩) (by rw [hye, hxi])
              have hg0 : mget (trues (ks ++ (L1.take j).map It.id)) xi = none := by rw [mget_trues, if_neg hnotin]
              have hlk := run_lookup_int (P := Try.prog) Try.underlying30 Try.under5 Try.zero4 hSj xi
              rw [hg0] at hlk
              simp only [Option.getD_none] at hlk
              obtain ⟨w5, st, hent, hm5, hst⟩ := run_mapEntry_new (P := Try.prog) Try.underlying30 Try.under5 Try.zero4 (MapAt.drew hSj) xi hg0
              obtain ⟨w6, hsto, hS6, hm6⟩ := hst (.bool true)
              have g0 := hm5.cell (w := wr.drew) f0 hgxM
              have HXI := Lib.hid hxi
              have HXT := Lib.hid hxt
              have HXJ := Lib.hid hxj
              have hdropx : L1.drop j = x :: L1.drop (j + 1) := by rw [List.drop_eq_getElem_cons hjL, ← hxe]
              have htakex : L1.take (j + 1) = L1.take j ++ [x] := by rw [List.take_add_one, hxj]; rfl
              have hnext : ∀ y ∈ L1.drop (j + 1), xt ≤ y.t := by
                intro y hy
                have hsd := hP.srt.drop (i := j)
                unfold times at hsd
                rw [← List.map_drop, hdropx, List.map_cons, List.pairwise_cons] at hsd
                rw [hxt]
                exact hsd.1 y.t (List.mem_map.2 ⟨y, hy, rfl⟩)
              have HDX := Lib.hid hnext
              have HTX := Lib.hid htakex
              clear hxi hxt hxe hxj hgx hdv hg0 hall hD1 hD2 hljx hkL hst hdropx htakex hnext
              go_wp2_with fail
              go_region
              all_goals go_wp2_with fail
              all_goals go_roundw
              case rel =>
                refine ⟨j + 1, xt, by omega, by go_num, rfl, hxt0, hxt2, HDX.out, ?_, hmj.trans' (T := (· = M2)) (w1 := wr) ⟨hm6.os, hm6.tape, hm6.output, hm6.size, hm6.block⟩ (fun _ _ e => e)⟩
                rw [HTX.out, List.map_append, ← List.append_assoc]
                show MapAt w6 M2 .u8 (trues (ks ++ (L1.take j).map It.id ++ [x.id]))
                rw [← trues_snoc, ← HXI.out]
                exact hS6
              case measure => simp [intOf]; omega
            · obtain rfl : j = kk := by omega
              have HALL := Lib.hid hall
              have HD2 := Lib.hid hD2
              have HC := Lib.hid hcnt
              clear hall hD1 hD2 hcnt
              go_wp2_with fail
              go_roundw
              case rel =>
                have hnM : ∀ k', w1.heap.size ≤ k' → True := fun _ _ => trivial
                have hPr : PlanAt w1.heap.size wr p v' M (mdels ml1 (L1.take j)) (L1.drop j) false := by
                  have i1 : ∀ g, v'.ownBlock = some g → ¬ g = M2 := fun g hg e => own_ne_map hPD.own hSD (by rw [hg, e])
                  exact { blk := hPD.blk.mod hmj (fun e => hpM2 e), own := hmj.own hPD.own i1, map := hPD.map.mod hmj hMM, ids := hPD.ids,
                          tcs := fun y hy => (hPD.tcs y hy).mod hmj (fun g hg e => own_ne_map (hPD.tcs y hy).1 hSD (by rw [hg, e])),
                          low := hPD.low, few := hPD.few, rng := hPD.rng, srt := hPD.srt, uniq := hPD.uniq }
                refine ⟨now + (1 + s % 7), lj, rfl, rfl, by omega, by omega, hlj0, hlj2, ⟨v', _, L1.drop j, ks ++ (L1.take j).map It.id, hPr, hSj, ?_, fun y hy => ?_⟩, ?_⟩
                · have := HC.out; simp; omega
                · have hyL := List.mem_of_mem_drop hy
                  have hy0 := HALL.out y hyL
                  have hy1 := HD2.out y hy
                  refine ⟨hy0.1, hljx y hy, by omega, ?_⟩
                  rw [List.mem_append]
                  rintro (h1 | h1)
                  · exact hy0.2.2.2 h1
                  · obtain ⟨y', hy', hye⟩ := List.mem_map.1 h1
                    have hu := hP.uniq
                    rw [← List.take_append_drop j L1, List.map_append, List.nodup_append] at hu
                    exact hu.2.2 y'.id (List.mem_map.2 ⟨y', hy', rfl⟩) y.id (List.mem_map.2 ⟨y, hy, rfl⟩) hye
                · have hw1 := hm1.size
                  exact (hm.trans' hmD (fun k' hk' e => absurd e (hP.below k' (by omega)))).trans' hmj (fun k' hk' e => by omega)
              case measure => simp [intOf]; omega
        · obtain ⟨LL, hLL⟩ : ∃ LL, LL = L1.length := ⟨_, rfl⟩
          have hlen := len_walk hP
          rw [← hLL] at hlen hcnt
          have hend : inc = 1 → LL = 0 := by
            intro h1
            rw [hLL]
            cases L1 with
            | nil => rfl
            | cons x l =>
              have hx := hall x (by simp)
              have := hx.1.2.2.1
              have := hx.2.2.1
              omega
          have hlm := fun ty => run_len_map (P := Try.prog) (ty := ty) Try.underlying30 hS
          have hkl : (trues ks).length = N - LL := by simp [trues]; omega
          have HE := Lib.hid hend
          have hLN : LL ≤ N := by omega
          rw [hkl] at hlm
          have HLEN := Lib.hid hlen
          clear hLL hkl hall hcnt hend hlen hlt
          by_cases h0 : LL = 0
          · subst h0
            simp only [Nat.sub_zero] at hlm
            clear HE
            go_wp2_with (go_at_call 10; refine HLEN.out.mono ?_; rintro e w3 ⟨rfl, hw3⟩; obtain rfl := hw3.symm)
            go_ret
            exact ⟨rfl, hm⟩
          · have hs7 : 0 < s % 7 := by
              rcases Nat.eq_zero_or_pos LL with h | h
              · exact absurd h h0
              · have h1 : ¬ inc = 1 := fun e => h0 (HE.out e)
                omega
            have hb0 : ((LL : Int) == 0) = false := by simp; omega
            have hb1 : ((LL : Int) + ((N - LL : Nat) : Int) == (N : Int)) = true := by simp; omega
            clear HE
            go_wp2_with (go_at_call 10; refine HLEN.out.mono ?_; rintro e w3 ⟨rfl, hw3⟩; obtain rfl := hw3.symm)
            go_ret
            exact ⟨rfl, hm⟩
end Go.Proofs.Ytelfhcojpigkoaa
