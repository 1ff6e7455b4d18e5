/- Slices of bytes that are read; the references' own Cut and Same. -/
import Derived.Test.YtjacllnmpenbmaaDoorRows
import Derived.Test.YtjacllnmpenbmaaDoorRow
namespace Go.Proofs.YtjacllnmpenbmaaDoor
open Go Go.RowKit

/-- What a slice of one-cell elements reads as: where it is not empty it has a place, and the cells from there on hold it. -/
def Rd (w : World) (a : Option Addr) (xs : List Value) : Prop := xs ≠ [] → ∃ b o, a = some ⟨b, o, none⟩ ∧ b < w.heap.size ∧ ∀ j u, xs[j]? = some u → w.cell? ⟨b, o + j, none⟩ = some u
def bv (zs : List Int) : List Value := zs.map (Value.int .u8)
theorem bv_length (zs : List Int) : (bv zs).length = zs.length := by simp [bv]
theorem bv_ones (zs : List Int) : Ones (bv zs) := by
  intro u hu
  obtain ⟨z, -, rfl⟩ := List.mem_map.1 hu
  rfl
theorem bv_inj {a b : List Int} (h : bv a = bv b) : a = b := by
  unfold bv at h
  exact List.map_inj_right (f := Value.int .u8) (fun x y e => by cases e; rfl) |>.1 h

section
variable {w w' : World} {a : Option Addr} {xs : List Value}
theorem Rd.mod {S : Nat → Prop} (h : Rd w a xs) (hm : Mod S w w') (hn : ∀ b o, a = some ⟨b, o, none⟩ → ¬ S b) : Rd w' a xs := fun hx => by
  obtain ⟨b, o, ha, hb, hc⟩ := h hx
  exact ⟨b, o, ha, Nat.lt_of_lt_of_le hb hm.size, fun j u hu => hm.cell (hc j u hu) (hn b o ha)⟩
theorem Rd.nob (h : Rd w a xs) (hm : Mod NoB w w') : Rd w' a xs := h.mod hm (fun _ _ _ h => h)
theorem Rd.nil (w : World) (a : Option Addr) : Rd w a [] := fun h => absurd rfl h
theorem Rd.of_own {base e n c : Nat} (h : w.ownsRow base e 1 (.slice a n c) n xs) : Rd w a xs := fun hx => by
  rcases h.2 with ⟨h1, rfl⟩ | ⟨g, cap, cur, h1, hb, hg, -⟩
  · exact absurd (List.eq_nil_of_length_eq_zero (by have := h.1; simpa using this)) hx
  · cases h1
    refine ⟨g, 0, rfl, lt_of_heap hg, fun j u hu => ?_⟩
    have hj : j < n * 1 := by have := (List.getElem?_eq_some_iff.1 hu).1; have := h.1; omega
    rw [Nat.zero_add, h.cellAt j hj]
    exact hu
theorem Rd.at_ (h : Rd w a xs) {j : Nat} {u : Value} (hj : xs[j]? = some u) : ∃ b o, a = some ⟨b, o, none⟩ ∧ b < w.heap.size ∧ w.cell? ⟨b, o + j, none⟩ = some u := by
  obtain ⟨b, o, h1, h2, h3⟩ := h (by rintro rfl; simp at hj)
  exact ⟨b, o, h1, h2, h3 j u hj⟩
theorem Rd.arr {b o : Nat} (h : Rd w (some ⟨b, o, none⟩) xs) : Arr w ⟨b, o, none⟩ xs := fun j u hu => by
  obtain ⟨b', o', h1, -, h3⟩ := h.at_ hu
  cases h1
  rw [Addr.add_mid]
  exact h3
end

theorem Tryd.info5 : (Tryd.prog.info? 5).map (fun i => (i.zero, i.size, i.bytes)) = some (some (.int .u8 0), 1, 1) := by kernel_rfl
theorem Tryd.elemU8 : ElemT Tryd.prog 23 5 1 1 := ElemT.mk' Tryd.info5 Tryd.underlying23 (by omega) rfl

theorem bv_get {zs : List Int} {k : Nat} (hk : k < zs.length) : (bv zs)[k]? = some (.int .u8 zs[k]) := by simp [bv, hk]
theorem bv_take_succ {zs : List Int} {k : Nat} (hk : k < zs.length) : bv (zs.take (k + 1)) = bv (zs.take k) ++ [.int .u8 zs[k]] := by
  rw [List.take_succ_eq_append_getElem hk]
  unfold bv
  rw [List.map_append, List.map_cons, List.map_nil]

set_option maxHeartbeats 1000000 in
theorem cut_walk (w : World) (a : Option Addr) (n c : Nat) (zs : List Int) (m : Nat) (hz : zs.length = n) (hn : n ≤ 9223372036854775807) (hm1 : m ≤ 1000) (hr : Rd w a (bv zs)) :
    Calls Tryd.prog 6 #[.slice a n c, .int .i64 m] w fun e w' => ∃ a' c', e = .returned (.slice a' (min m n) c') ∧ w'.ownsRow w.heap.size 5 1 (.slice a' (min m n) c') (min m n) (bv (zs.take m)) ∧ Mod NoB w w' := by
  have HZ := Lib.hid hz
  clear hz
  have hbase : ∀ wr, Mod NoB w wr → w.heap.size ≤ wr.heap.size := fun _ h => h.size
  go_enter Tryd.func6, Tryd.ntmps6
  go_wp2_with fail
  go_loopw [5, 10] (fun q i wr => ∃ k : Nat, k ≤ n ∧ i = .int .i64 k ∧ wr.ownsRow w.heap.size 5 1 q (min m k) (bv (zs.take (min m k))) ∧ Mod NoB w wr) (fun _ i _ => n - (intOf i).toNat)
  case atStart => exact ⟨0, Nat.zero_le _, rfl, by simpa [bv] using World.ownsRow_nil _ _ _ _, Mod.refl _ _⟩
  case round =>
    obtain ⟨k, hk, rfl, hown, hm⟩ := hrel
    by_cases hlt : k < n
    · have hkz : k < zs.length := by rw [HZ.out]; exact hlt
      obtain ⟨b, o, rfl, hb, hc⟩ := (hr.nob hm).at_ (bv_get hkz)
      obtain ⟨z, hz⟩ : ∃ z, z = zs[k] := ⟨_, rfl⟩
      rw [← hz] at hc
      have HZK := Lib.hid hz
      clear hz
      by_cases hkm : k < m
      · have hbW := Blk.new wr 5 [Value.int .u8 z]
        have hmW : Mod NoB wr (wr.alloc (.cells [Value.int .u8 z].toArray 5)) := (Mod.refl _ _).alloc _
        obtain ⟨v', w3, hrun, hown3, hm3, hb3, hn3⟩ := append_own (P := Tryd.prog) Tryd.elemU8 (hmW.own hown (fun _ _ h => h)) (m := 1) (by simp) (hbW.arr 0) (fun u hu => by simp at hu; subst hu; rfl) (by unfold maxLen; omega) (by omega) (by have := hm.size; have := hmW.size; omega)
        go_wp2_with (at_builtin; refine wpList_of_run rfl (exec_builtin2 (b := .append) (fun _ _ _ _ => rfl) _ _ 23 23 rfl rfl rfl (hrun _ _)) ?_)
        go_roundw
        case rel =>
          refine ⟨k + 1, by omega, by go_num, ?_, (hm.trans hmW).trans' hm3 (fun k' hk' e => by have := (hown.lt k' e).1; omega)⟩
          have e1 : min m k = k := by omega
          have e2 : min m (k + 1) = k + 1 := by omega
          rw [e1] at hown3
          rw [e2, bv_take_succ hkz, ← HZK.out]
          exact hown3
        case measure => simp [intOf]; omega
      · have e1 : min m (k + 1) = min m k := by omega
        go_wp2_with fail
        go_roundw
        case rel => exact ⟨k + 1, by omega, by go_num, by rw [e1]; exact hown, hm⟩
        case measure => simp [intOf]; omega
    · obtain rfl : k = n := by omega
      obtain ⟨a', c', rfl⟩ := own_slice hown
      have htk : zs.take (min m k) = zs.take m := by
        rw [← HZ.out]
        by_cases h : m ≤ zs.length
        · rw [Nat.min_eq_left h]
        · rw [List.take_of_length_le (by omega), List.take_of_length_le (by omega)]
      have HT := Lib.hid htk
      clear htk
      go_wp2_with fail
      go_ret
      exact ⟨a', c', rfl, by rw [← HT.out]; exact hown, hm⟩

set_option maxHeartbeats 1000000 in
theorem same_walk (w : World) (a a' : Option Addr) (c c' : Nat) (zs zs' : List Int) (n n' : Nat) (hz : zs.length = n) (hz' : zs'.length = n') (hn : n ≤ 9223372036854775807) (hr : Rd w a (bv zs)) (hr' : Rd w a' (bv zs')) :
    Calls Tryd.prog 12 #[.slice a n c, .slice a' n' c'] w fun e w' => e = .returned (.bool (decide (zs = zs'))) ∧ Mod NoB w w' := by
  have hfin0 : n ≠ n' → decide (zs = zs') = false := fun h => by simp; rintro rfl; omega
  have hfin1 : ∀ (k : Nat) (x x' : Int), zs[k]? = some x → zs'[k]? = some x' → x ≠ x' → decide (zs = zs') = false := fun k x x' h1 h2 hne => by
    simp
    rintro rfl
    rw [h1] at h2
    exact hne (Option.some.inj h2)
  have hfin2 : n = n' → (∀ k : Nat, k < n → zs[k]? = zs'[k]?) → decide (zs = zs') = true := fun h1 h2 => by
    simp
    refine List.ext_getElem? fun k => ?_
    by_cases hk : k < n
    · exact h2 k hk
    · rw [List.getElem?_eq_none (by omega), List.getElem?_eq_none (by omega)]
  obtain ⟨B, hB⟩ : ∃ B, B = decide (zs = zs') := ⟨_, rfl⟩
  rw [← hB] at hfin0 hfin1 hfin2 ⊢
  clear hB
  by_cases hnn : n = n'
  · subst hnn
    have HZ := Lib.hid hz
    have HZ' := Lib.hid hz'
    have H1 := Lib.hid hfin1
    have H2 := Lib.hid (hfin2 rfl)
    clear hz hz' hfin0 hfin1 hfin2
    go_enter Tryd.func12, Tryd.ntmps12
    go_wp2_with fail
    go_loopw [13] (fun i wr => ∃ k : Nat, k ≤ n ∧ i = .int .i64 k ∧ (∀ j : Nat, j < k → zs[j]? = zs'[j]?) ∧ Mod NoB w wr) (fun i _ => n - (intOf i).toNat)
    case atStart => exact ⟨0, Nat.zero_le _, rfl, fun j hj => by omega, Mod.refl _ _⟩
    case round =>
      obtain ⟨k, hk, rfl, hsm, hm⟩ := hrel
      by_cases hlt : k < n
      · have hk1 : k < zs.length := by rw [HZ.out]; exact hlt
        have hk2 : k < zs'.length := by rw [HZ'.out]; exact hlt
        obtain ⟨b, o, rfl, hb, hc⟩ := (hr.nob hm).at_ (bv_get hk1)
        obtain ⟨b', o', rfl, hb', hc'⟩ := (hr'.nob hm).at_ (bv_get hk2)
        have g1 : zs[k]? = some zs[k] := by simp
        have g2 : zs'[k]? = some zs'[k] := by simp
        obtain ⟨x, hx⟩ : ∃ x, x = zs[k] := ⟨_, rfl⟩
        obtain ⟨x', hx'⟩ : ∃ x', x' = zs'[k] := ⟨_, rfl⟩
        rw [← hx] at hc g1
        rw [← hx'] at hc' g2
        have G1 := Lib.hid g1
        have G2 := Lib.hid g2
        have HS := Lib.hid hsm
        clear hx hx' g1 g2 hsm
        by_cases hxx : x = x'
        · subst hxx
          have hbb : (x != x) = false := by simp
          go_wp2_with fail
          go_region
          all_goals go_wp2_with fail
          all_goals go_roundw
          case rel =>
            refine ⟨k + 1, by omega, by go_num, fun j hj => ?_, hm.drew⟩
            by_cases h : j < k
            · exact HS.out j h
            · obtain rfl : j = k := by omega
              rw [G1.out, G2.out]
          case measure => simp [intOf]; omega
        · have hbb : (x != x') = true := by rw [bne_iff_ne]; exact hxx
          have hb0 : (x == x') = false := by rw [beq_eq_false_iff_ne]; exact hxx
          have HF := Lib.hid (H1.out k x x' G1.out G2.out hxx)
          clear hxx
          go_wp2_with fail
          go_region
          all_goals go_wp2_with fail
          all_goals go_ret
          all_goals exact ⟨by rw [HF.out]; rfl, hm.drew⟩
      · have HF := Lib.hid (H2.out (fun j hj => hsm j (by omega)))
        clear hsm
        go_wp2_with fail
        go_ret
        exact ⟨by rw [HF.out]; rfl, hm⟩
  · have hb : ((n : Int) == (n' : Int)) = false := by simp; omega
    have hb' : ((n : Int) != (n' : Int)) = true := by simp; omega
    have HF := Lib.hid (hfin0 hnn)
    clear hfin0 hfin1 hfin2
    go_enter Tryd.func12, Tryd.ntmps12
    go_wp2_with fail
    go_ret
    exact ⟨by rw [HF.out]; rfl, Mod.refl _ _⟩
end Go.Proofs.YtjacllnmpenbmaaDoor
