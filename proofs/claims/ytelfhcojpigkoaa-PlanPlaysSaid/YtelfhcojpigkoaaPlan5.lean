/- Contracts: slices.IndexFunc and slices.DeleteFunc over plan.Item with the plan's two closures (printed by gen/plan5.py). -/
import Derived.Test.YtelfhcojpigkoaaPlan4
namespace Go.Proofs.Ytelfhcojpigkoaa
open Go Go.RowKit

theorem filter_take_succ (p : It → Bool) (L : List It) (j : Nat) (x : It) (hx : L[j]? = some x) : (L.take (j + 1)).filter p = (L.take j).filter p ++ (if p x then [x] else []) := by
  rw [List.take_add_one, hx, Option.toList_some, List.filter_append]
  congr 1
  cases h : p x <;> simp [h]
theorem flat_ext (l : List Value) (K : List It) (n : Nat) (hn : K.length = n) (h : ∀ k r, k < n → r < 3 → l[k * 3 + r]? = (K[k]?.getD ⟨0, 0, .nilFunc, []⟩).cells[r]?) (hl : n * 3 ≤ l.length) : l.take (n * 3) = flat K := by
  apply List.ext_getElem?
  intro m
  by_cases hm : m < n * 3
  · rw [List.getElem?_take, if_pos hm]
    obtain ⟨k, r, hk, hr, rfl⟩ : ∃ k r, k < n ∧ r < 3 ∧ m = k * 3 + r := ⟨m / 3, m % 3, by omega, by omega, by omega⟩
    have hk' : K[k]? = some (K[k]'(by omega)) := List.getElem?_eq_getElem (by omega)
    rw [h k r hk hr, flat_get K k r (by omega) hr, hk']
    rfl
  · rw [List.getElem?_take, if_neg hm, List.getElem?_eq_none (by rw [flat_length]; omega)]

theorem set3_get (l : List Value) (u0 u1 u2 : Value) (i k r : Nat) (hl : i * 3 + 2 < l.length) (hr : r < 3) :
    (((l.set (i * 3) u0).set (i * 3 + 1) u1).set (i * 3 + 2) u2)[k * 3 + r]? = if k = i then [u0, u1, u2][r]? else l[k * 3 + r]? := by
  by_cases hk : k = i
  · subst hk
    rw [if_pos rfl]
    match r, hr with
    | 0, _ => rw [List.getElem?_set_ne (by omega), List.getElem?_set_ne (by omega), Nat.add_zero, List.getElem?_set_self (by omega)]; rfl
    | 1, _ => rw [List.getElem?_set_ne (by omega), List.getElem?_set_self (by simp; omega)]; rfl
    | 2, _ => rw [List.getElem?_set_self (by simp; omega)]; rfl
  · rw [if_neg hk, List.getElem?_set_ne (by omega), List.getElem?_set_ne (by omega), List.getElem?_set_ne (by omega)]

/-- The captured variables' own cells. -/
def Cap1 (W : World) (q : Nat) (t : TypeId) (u : Value) : Prop := Blk W q t [u]

theorem id_call (W : World) (t id a : Int) (tv : Value) (q : Nat) (h : Blk W q 29 [.int .u16 a]) :
    Calls Try.prog 37 #[.agg #[.int .u32 t, .int .u16 id, tv], .pointer (some ⟨q, 0, none⟩)] W fun e w' => e = .returned (.bool (id == a)) ∧ Mod NoB W w' := by
  have c0 := (h.alloc (.cells #[Value.int .u32 t, .int .u16 id, tv] 56)).cell 0
  simp at c0
  go_enter Try.func37, Try.ntmps37
  go_wp2_with fail
  go_ret
  exact ⟨rfl, (Mod.refl _ W).alloc _⟩
theorem btw_call (W : World) (t id a b : Int) (tv : Value) (q q' : Nat) (h : Blk W q 28 [.int .u32 a]) (h' : Blk W q' 28 [.int .u32 b]) :
    Calls Try.prog 34 #[.agg #[.int .u32 t, .int .u16 id, tv], .pointer (some ⟨q, 0, none⟩), .pointer (some ⟨q', 0, none⟩)] W fun e w' => e = .returned (.bool (decide (t < a) || decide (b < t))) ∧ Mod NoB W w' := by
  have c0 := (h.alloc (.cells #[Value.int .u32 t, .int .u16 id, tv] 56)).cell 0
  have c1 := (h'.alloc (.cells #[Value.int .u32 t, .int .u16 id, tv] 56)).cell 0
  simp at c0 c1
  by_cases hta : t < a
  · have hd : decide (t < a) = true := by simpa using hta
    go_enter Try.func34, Try.ntmps34
    go_wp2_with fail
    go_ret
    exact ⟨by simp [hta], (Mod.refl _ W).alloc _⟩
  · have hd : decide (t < a) = false := by simpa using hta
    go_enter Try.func34, Try.ntmps34
    go_wp2_with fail
    go_ret
    exact ⟨by simp [hd], (Mod.refl _ W).alloc _⟩

set_option maxHeartbeats 1000000 in
theorem index_id (w : World) (B n : Nat) (a : Option Addr) (c : Nat) (L : List It) (q : Nat) (idv : Int) (hown : w.ownsRow B 56 3 (.slice a n c) n (flat L)) (hL : L.length = n) (hn : n ≤ 1000) (hq : Blk w q 29 [.int .u16 idv]) :
    Calls Try.prog 38 #[.slice a n c, .func (.func 37) #[] #[.pointer (some ⟨q, 0, none⟩)]] w fun e w' => ∃ i : Nat, e = .returned (.int .i64 (if i < n then (i : Int) else -1)) ∧ i ≤ n ∧ (∀ (k : Nat) (x : It), k < i → L[k]? = some x → (x.id == idv) = false) ∧ (∀ x : It, L[i]? = some x → (x.id == idv) = true) ∧ Mod NoB w w' := by
  have HL := Lib.hid hL
  clear hL
  go_enter Try.func38, Try.ntmps38
  go_wp2_with fail
  go_loopw [8] (fun i wr => ∃ k : Nat, k ≤ n ∧ i = .int .i64 k ∧ (∀ (j : Nat) (x : It), j < k → L[j]? = some x → (x.id == idv) = false) ∧ Mod NoB w wr) (fun i _ => n - (intOf i).toNat)
  case atStart => exact ⟨0, Nat.zero_le _, rfl, fun j x hj => by omega, Mod.refl _ _⟩
  case round =>
    obtain ⟨k, hk, rfl, hno, hm⟩ := hrel
    by_cases hlt : k < n
    · have hkL : k < L.length := by rw [HL.out]; exact hlt
      obtain ⟨x, hx⟩ : ∃ x, x = L[k] := ⟨_, rfl⟩
      have hxk : L[k]? = some x := by rw [hx]; simp
      obtain ⟨g, rfl, hcell⟩ : ∃ g, a = some ⟨g, 0, none⟩ ∧ ∀ i, i < 3 → w.cell? ⟨g, k * 3 + i, none⟩ = x.cells[i]? := by
        rcases hown.2 with ⟨_, h0⟩ | ⟨g, cap, cur, hv, _, hg, _⟩
        · omega
        · cases hv
          exact ⟨g, rfl, fun i hi => by rw [hown.cellAt _ (by omega), flat_get L k i hkL hi, ← hx]⟩
      have c0 := hm.cell (hcell 0 (by omega)) (fun h => h)
      have c1 := hm.cell (hcell 1 (by omega)) (fun h => h)
      have c2 := hm.cell (hcell 2 (by omega)) (fun h => h)
      obtain ⟨xt, hxt⟩ : ∃ xt, xt = x.t := ⟨_, rfl⟩
      obtain ⟨xi, hxi⟩ : ∃ xi, xi = x.id := ⟨_, rfl⟩
      obtain ⟨xv, hxv⟩ : ∃ xv, xv = x.v := ⟨_, rfl⟩
      simp [It.cells, ← hxt, ← hxi, ← hxv] at c0 c1 c2
      have HXT := Lib.hid hxt
      have HXI := Lib.hid hxi
      have HXK := Lib.hid hxk
      have HNO := Lib.hid hno
      clear hx hxt hxi hxv hxk hcell hno hown
      go_wp2_with fail
      refine (id_call _ _ _ _ _ _ (hq.mod hm (fun h => h))).mono ?_
      rintro e w2 ⟨rfl, hm2⟩
      obtain ⟨b, hb⟩ : ∃ b, b = (xi == idv) := ⟨_, rfl⟩
      rw [← hb]
      have HB := Lib.hid hb
      clear hb
      cases b
      · go_wp2_with fail
        go_roundw
        case rel =>
          refine ⟨k + 1, by omega, by go_num, fun j y hj hy => ?_, hm.trans hm2⟩
          by_cases h : j < k
          · exact HNO.out j y h hy
          · obtain rfl : j = k := by omega
            rw [HXK.out] at hy
            obtain rfl := Option.some.inj hy
            simp only [← HXI.out, ← HXT.out]
            exact HB.out.symm
        case measure => simp [intOf]; omega
      · go_wp2_with fail
        go_ret
        refine ⟨k, by rw [if_pos hlt]; rfl, hk, HNO.out, fun y hy => ?_, hm.trans hm2⟩
        rw [HXK.out] at hy
        obtain rfl := Option.some.inj hy
        simp only [← HXI.out, ← HXT.out]
        exact HB.out.symm
    · obtain rfl : k = n := by omega
      have HNO := Lib.hid hno
      clear hno
      go_wp2_with fail
      go_ret
      refine ⟨k, by rw [if_neg hlt]; rfl, hk, HNO.out, fun y hy => ?_, hm⟩
      rw [List.getElem?_eq_none (by rw [HL.out]; omega)] at hy
      cases hy

set_option maxHeartbeats 1000000 in
theorem index_btw (w : World) (B n : Nat) (a : Option Addr) (c : Nat) (L : List It) (q q' : Nat) (t0 t1 : Int) (hown : w.ownsRow B 56 3 (.slice a n c) n (flat L)) (hL : L.length = n) (hn : n ≤ 1000) (hq : Blk w q 28 [.int .u32 t0]) (hq' : Blk w q' 28 [.int .u32 t1]) :
    Calls Try.prog 38 #[.slice a n c, .func (.func 34) #[] #[.pointer (some ⟨q, 0, none⟩), .pointer (some ⟨q', 0, none⟩)]] w fun e w' => ∃ i : Nat, e = .returned (.int .i64 (if i < n then (i : Int) else -1)) ∧ i ≤ n ∧ (∀ (k : Nat) (x : It), k < i → L[k]? = some x → (decide (x.t < t0) || decide (t1 < x.t)) = false) ∧ (∀ x : It, L[i]? = some x → (decide (x.t < t0) || decide (t1 < x.t)) = true) ∧ Mod NoB w w' := by
  have HL := Lib.hid hL
  clear hL
  go_enter Try.func38, Try.ntmps38
  go_wp2_with fail
  go_loopw [8] (fun i wr => ∃ k : Nat, k ≤ n ∧ i = .int .i64 k ∧ (∀ (j : Nat) (x : It), j < k → L[j]? = some x → (decide (x.t < t0) || decide (t1 < x.t)) = false) ∧ Mod NoB w wr) (fun i _ => n - (intOf i).toNat)
  case atStart => exact ⟨0, Nat.zero_le _, rfl, fun j x hj => by omega, Mod.refl _ _⟩
  case round =>
    obtain ⟨k, hk, rfl, hno, hm⟩ := hrel
    by_cases hlt : k < n
    · have hkL : k < L.length := by rw [HL.out]; exact hlt
      obtain ⟨x, hx⟩ : ∃ x, x = L[k] := ⟨_, rfl⟩
      have hxk : L[k]? = some x := by rw [hx]; simp
      obtain ⟨g, rfl, hcell⟩ : ∃ g, a = some ⟨g, 0, none⟩ ∧ ∀ i, i < 3 → w.cell? ⟨g, k * 3 + i, none⟩ = x.cells[i]? := by
        rcases hown.2 with ⟨_, h0⟩ | ⟨g, cap, cur, hv, _, hg, _⟩
        · omega
        · cases hv
          exact ⟨g, rfl, fun i hi => by rw [hown.cellAt _ (by omega), flat_get L k i hkL hi, ← hx]⟩
      have c0 := hm.cell (hcell 0 (by omega)) (fun h => h)
      have c1 := hm.cell (hcell 1 (by omega)) (fun h => h)
      have c2 := hm.cell (hcell 2 (by omega)) (fun h => h)
      obtain ⟨xt, hxt⟩ : ∃ xt, xt = x.t := ⟨_, rfl⟩
      obtain ⟨xi, hxi⟩ : ∃ xi, xi = x.id := ⟨_, rfl⟩
      obtain ⟨xv, hxv⟩ : ∃ xv, xv = x.v := ⟨_, rfl⟩
      simp [It.cells, ← hxt, ← hxi, ← hxv] at c0 c1 c2
      have HXT := Lib.hid hxt
      have HXI := Lib.hid hxi
      have HXK := Lib.hid hxk
      have HNO := Lib.hid hno
      clear hx hxt hxi hxv hxk hcell hno hown
      go_wp2_with fail
      refine (btw_call _ _ _ _ _ _ _ _ (hq.mod hm (fun h => h)) (hq'.mod hm (fun h => h))).mono ?_
      rintro e w2 ⟨rfl, hm2⟩
      obtain ⟨b, hb⟩ : ∃ b, b = (decide (xt < t0) || decide (t1 < xt)) := ⟨_, rfl⟩
      rw [← hb]
      have HB := Lib.hid hb
      clear hb
      cases b
      · go_wp2_with fail
        go_roundw
        case rel =>
          refine ⟨k + 1, by omega, by go_num, fun j y hj hy => ?_, hm.trans hm2⟩
          by_cases h : j < k
          · exact HNO.out j y h hy
          · obtain rfl : j = k := by omega
            rw [HXK.out] at hy
            obtain rfl := Option.some.inj hy
            simp only [← HXI.out, ← HXT.out]
            exact HB.out.symm
        case measure => simp [intOf]; omega
      · go_wp2_with fail
        go_ret
        refine ⟨k, by rw [if_pos hlt]; rfl, hk, HNO.out, fun y hy => ?_, hm.trans hm2⟩
        rw [HXK.out] at hy
        obtain rfl := Option.some.inj hy
        simp only [← HXI.out, ← HXT.out]
        exact HB.out.symm
    · obtain rfl : k = n := by omega
      have HNO := Lib.hid hno
      clear hno
      go_wp2_with fail
      go_ret
      refine ⟨k, by rw [if_neg hlt]; rfl, hk, HNO.out, fun y hy => ?_, hm⟩
      rw [List.getElem?_eq_none (by rw [HL.out]; omega)] at hy
      cases hy

set_option maxHeartbeats 2000000 in
theorem deleteFunc_id (w : World) (B n : Nat) (a : Option Addr) (c : Nat) (L : List It) (q : Nat) (idv : Int) (hown : w.ownsRow B 56 3 (.slice a n c) n (flat L)) (hL : L.length = n) (hn : n ≤ 1000) (hone : ∀ x ∈ L, ∃ a n c, x.v = .slice a n c) (hq : Blk w q 29 [.int .u16 idv]) :
    Calls Try.prog 33 #[.slice a n c, .func (.func 37) #[] #[.pointer (some ⟨q, 0, none⟩)]] w fun e w' => ∃ i : Nat, e = .returned (.slice a i c) ∧ i = (L.filter (fun x => !(x.id == idv))).length ∧ w'.ownsRow B 56 3 (.slice a i c) i (flat (L.filter (fun x => !(x.id == idv)))) ∧ Mod (fun k => (Value.slice a n c).ownBlock = some k) w w' := by
  obtain ⟨-, hnc, hcm⟩ := own_len hown
  have hcm' := hcm
  unfold maxLen at hcm
  have hidx := index_id w B n a c L q idv hown hL hn hq
  have HIDX := Lib.hid hidx
  have HL := Lib.hid hL
  clear hidx hL
  go_enter Try.func33, Try.ntmps33
  go_wp2_with fail
  refine HIDX.out.mono ?_
  rintro e w1 ⟨i0, rfl, hi0, hbef, hat, hm1⟩
  by_cases hin : i0 < n
  · obtain ⟨g, rfl⟩ : ∃ g, a = some ⟨g, 0, none⟩ := by
      rcases hown.2 with ⟨_, h0⟩ | ⟨g, cap, cur, hv, _, hg, _⟩
      · omega
      · cases hv; exact ⟨g, rfl⟩
    rw [if_pos hin]
    have hb1 : ((i0 : Int) == -1) = false := beq_eq_false_iff_ne.2 (by omega)
    obtain ⟨l0, hl0, hl0l, hl0t, hBg, -, -⟩ := own_blk (hm1.own hown (fun _ _ h => h))
    have hfil0 : (L.take i0).filter (fun x => !(x.id == idv)) = L.take i0 := by
      rw [List.filter_eq_self]
      intro x hx
      obtain ⟨j, hj, hjx⟩ := List.getElem_of_mem hx
      rw [List.length_take] at hj
      have := hbef j x (by omega) (by rw [← hjx]; first | done | simp)
      rw [this]; rfl
    have hfil1 : (L.take (i0 + 1)).filter (fun x => !(x.id == idv)) = L.take i0 := by
      obtain ⟨x, hx⟩ : ∃ x, L[i0]? = some x := ⟨L[i0]'(by rw [HL.out]; exact hin), by simp⟩
      rw [filter_take_succ _ L i0 x hx, hat x hx, hfil0]
      try simp
    have hcl0 : ∀ k r, k < n → r < 3 → l0[k * 3 + r]? = (L[k]?.getD ⟨0, 0, .nilFunc, []⟩).cells[r]? := by
      intro k r hk hr
      have hkL : k < L.length := by rw [HL.out]; exact hk
      have h1 : (l0.take (n * 3))[k * 3 + r]? = l0[k * 3 + r]? := by rw [List.getElem?_take, if_pos (by omega)]
      have hk' : L[k]? = some L[k] := List.getElem?_eq_getElem hkL
      rw [← h1, hl0t, flat_get L k r hkL hr, hk']
      rfl
    have hqg : ∀ (qq : Nat) {u : Value}, Blk w qq 29 [u] → ¬ qq = g := fun qq _ hqq e => own_ne_blk hown hqq (by decide) (by rw [e]; rfl)
    clear hbef hat hown
    go_wp2_with fail
    obtain ⟨wo, rfl⟩ : ∃ wo : World, wo = w1 := ⟨_, rfl⟩
    go_loopw [5, 6] (fun p q wr => ∃ (i j : Nat) (l : List Value), p = .int .i64 i ∧ q = .int .i64 j ∧ i < j ∧ j ≤ n ∧ i = ((L.take j).filter (fun x => !(x.id == idv))).length ∧ Blk wr g 56 l ∧ l.length = c * 3 ∧
        (∀ k r, k < i → r < 3 → l[k * 3 + r]? = (((L.take j).filter (fun x => !(x.id == idv)))[k]?.getD ⟨0, 0, .nilFunc, []⟩).cells[r]?) ∧ (∀ k r, j ≤ k → k < n → r < 3 → l[k * 3 + r]? = (L[k]?.getD ⟨0, 0, .nilFunc, []⟩).cells[r]?) ∧ Mod (· = g) wo wr)
      (fun _ q _ => n - (intOf q).toNat)
    case atStart =>
      refine ⟨i0, i0 + 1, l0, rfl, by go_num, by omega, by omega, by rw [hfil1, List.length_take]; have := HL.out; omega, hl0, hl0l, fun k r hk hr => ?_, fun k r hj hk hr => hcl0 k r hk hr, Mod.refl _ _⟩
      rw [hfil1, List.getElem?_take, if_pos hk]
      exact hcl0 k r (by omega) hr
    case round =>
      clear hfil0 hfil1 hcl0 hl0 hl0l hl0t
      obtain ⟨i, j, l, rfl, rfl, hij, hjn, hie, hb, hll, hK, hR, hm⟩ := hrel
      by_cases hlt : j < n
      · have hjL : j < L.length := by rw [HL.out]; exact hlt
        obtain ⟨x, hx⟩ : ∃ x, x = L[j] := ⟨_, rfl⟩
        have hxj : L[j]? = some x := by rw [hx]; simp
        have c0 := hb.cell (j * 3)
        have c1 := hb.cell (j * 3 + 1)
        have c2 := hb.cell (j * 3 + 2)
        have r0 := hR j 0 (Nat.le_refl _) hlt (by omega)
        have r1 := hR j 1 (Nat.le_refl _) hlt (by omega)
        have r2 := hR j 2 (Nat.le_refl _) hlt (by omega)
        rw [hxj] at r0 r1 r2
        simp only [Nat.add_zero] at r0
        rw [r0] at c0; rw [r1] at c1; rw [r2] at c2
        obtain ⟨xt, hxt⟩ : ∃ xt, xt = x.t := ⟨_, rfl⟩
        obtain ⟨xi, hxi⟩ : ∃ xi, xi = x.id := ⟨_, rfl⟩
        obtain ⟨ax, nx, cx, hxv⟩ := hone x (List.mem_of_getElem? hxj)
        simp [It.cells, ← hxt, ← hxi, hxv] at c0 c1 c2
        have hfs := filter_take_succ (fun x => !(x.id == idv)) L j x hxj
        have hxc : x.cells = [.int .u32 xt, .int .u16 xi, .slice ax nx cx] := by rw [hxt, hxi, ← hxv]; rfl
        have HXC := Lib.hid hxc
        have HXT := Lib.hid hxt
        have HXI := Lib.hid hxi
        have HFS := Lib.hid hfs
        have HIE := Lib.hid hie
        have HK := Lib.hid hK
        have HR := Lib.hid hR
        clear hx hxt hxi hxv hxj r0 r1 r2 hfs hie hK hR hxc
        obtain ⟨u0, hu0⟩ : ∃ u, l[i * 3]? = some u := ⟨l[i * 3]'(by omega), by simp⟩
        obtain ⟨u1, hu1⟩ : ∃ u, l[i * 3 + 1]? = some u := ⟨l[i * 3 + 1]'(by omega), by simp⟩
        obtain ⟨u2, hu2⟩ : ∃ u, l[i * 3 + 2]? = some u := ⟨l[i * 3 + 2]'(by omega), by simp⟩
        have HU0 := Lib.hid hu0
        have HU1 := Lib.hid hu1
        have HU2 := Lib.hid hu2
        clear hu0 hu1 hu2
        have hgn : ∀ x : Nat, x < wr.heap.size → ¬ x = wr.heap.size := fun x hx e => by omega
        go_wp2_with fail
        have hqA : Mod NoB wr (wr.alloc (.cells #[Value.int .u32 xt, .int .u16 xi, .slice ax nx cx] 56)) := (Mod.refl _ _).alloc _
        have hqw := ((hq.mod hm1 (fun h => h)).mod hm (hqg _ hq)).mod hqA (fun h => h)
        refine (id_call _ _ _ _ _ _ hqw).mono ?_
        rintro e w2 ⟨rfl, hm2⟩
        have hb2 := (hb.mod hqA (fun h => h)).mod hm2 (fun h => h)
        have hbx := Blk.mod (Blk.new wr 56 [Value.int .u32 xt, .int .u16 xi, .slice ax nx cx]) hm2 (fun h => h)
        have d0 := hbx.cell 0
        have d1 := hbx.cell 1
        have d2 := hbx.cell 2
        simp at d0 d1 d2
        have e0 := (hb2.cell (i * 3)).trans HU0.out
        have e1 := (hb2.cell (i * 3 + 1)).trans HU1.out
        have e2 := (hb2.cell (i * 3 + 2)).trans HU2.out
        have f0 := hb2.frozen (i * 3)
        have f1 := hb2.frozen (i * 3 + 1)
        have f2 := hb2.frozen (i * 3 + 2)
        obtain ⟨b, hbb⟩ : ∃ b, b = (xi == idv) := ⟨_, rfl⟩
        rw [← hbb]
        have HB := Lib.hid hbb
        clear hbb
        have hmw2 : Mod (· = g) wo w2 := (hm.trans' hqA (fun _ _ h => h.elim)).trans' hm2 (fun _ _ h => h.elim)
        cases b
        · go_wp2_with fail
          go_roundw
          case rel =>
            have hpx : (!(x.id == idv)) = true := by simp only [← HXT.out, ← HXI.out]; rw [← HB.out]; rfl
            have hfe : (L.take (j + 1)).filter (fun x => !(x.id == idv)) = (L.take j).filter (fun x => !(x.id == idv)) ++ [x] := by rw [HFS.out]; simp only [hpx]; simp
            have hie := HIE.out
            have hset := ((hb2.setCell (i * 3) (.int .u32 xt)).setCell (i * 3 + 1) (.int .u16 xi)).setCell (i * 3 + 2) (.slice ax nx cx)
            refine ⟨i + 1, j + 1, _, by go_num, by go_num, by omega, by omega, by rw [hfe, List.length_append]; simp only [List.length_singleton]; omega, hset, by simp; omega, fun k r hk hr => ?_, fun k r hj hk hr => ?_, ((hmw2.setCell _ (fun _ => rfl)).setCell _ (fun _ => rfl)).setCell _ (fun _ => rfl)⟩
            · rw [set3_get l _ _ _ i k r (by omega) hr, hfe]
              by_cases hki : k = i
              · subst hki
                rw [if_pos rfl, List.getElem?_append_right (by omega), show k - ((L.take j).filter (fun x => !(x.id == idv))).length = 0 from by omega]
                simp only [List.getElem?_cons_zero, Option.getD_some]
                rw [HXC.out]
              · rw [if_neg hki, List.getElem?_append_left (by omega)]
                exact HK.out k r (by omega) hr
            · rw [set3_get l _ _ _ i k r (by omega) hr, if_neg (by omega)]
              exact HR.out k r (by omega) hk hr
          case measure => simp [intOf]; omega
        · go_wp2_with fail
          go_roundw
          case rel =>
            have hpx : (!(x.id == idv)) = false := by simp only [← HXT.out, ← HXI.out]; rw [← HB.out]; rfl
            have hfe : (L.take (j + 1)).filter (fun x => !(x.id == idv)) = (L.take j).filter (fun x => !(x.id == idv)) := by rw [HFS.out]; simp only [hpx]; simp
            refine ⟨i, j + 1, l, rfl, by go_num, by omega, by omega, by rw [hfe]; exact HIE.out, hb2, hll, by rw [hfe]; exact HK.out, fun k r hk hkn hr => HR.out k r (by omega) hkn hr, hmw2⟩
          case measure => simp [intOf]; omega
      · obtain rfl : j = n := by omega
        have hLj : L.take j = L := List.take_of_length_le (by rw [HL.out]; omega)
        rw [hLj] at hie hK
        have hij' : ¬ c = i := by omega
        have hclr := fun ty => run_clear_blk (P := Try.prog) (e := 56) (t := 50) (ty := ty) (elem := 56) (z := zItem) (g := g) (o := i * 3) (n := j - i) (c := c - i) Try.underlying50 Try.zero56 (zl := zItemL) rfl ones_zItem hb (by omega) (by rw [hll, len_zItem]; omega)
        have hfl := flat_ext l (L.filter (fun x => !(x.id == idv))) i hie.symm hK (by omega)
        have HFL := Lib.hid hfl
        have HIE := Lib.hid hie
        clear hie hK hR hLj hfl
        go_wp2_with fail
        go_ret
        refine ⟨i, rfl, HIE.out, ?_, ?_⟩
        · have := blk_own (hb.setRow (splice l (i * 3) (List.replicate (j - i) zItemL).flatten)) (c := c) (size := 3) (by rw [length_splice _ _ _ (by rw [length_zeros, hll, len_zItem]; omega), hll]) hBg (n := i) (by omega) hcm'
          rw [take_splice_after _ _ _ _ (Nat.le_refl _) (by omega), HFL.out] at this
          exact this
        · have hall : Mod (fun k => (Value.slice (some ⟨g, 0, none⟩) j c).ownBlock = some k) w wr := (hm1.mono (fun _ _ h => h.elim)).trans' hm (fun k _ e => by cases e; rfl)
          exact hall.setRow (fun _ => rfl) _
  · obtain rfl : i0 = n := by omega
    rw [if_neg hin]
    have hfil : L.filter (fun x => !(x.id == idv)) = L := by
      rw [List.filter_eq_self]
      intro x hx
      obtain ⟨j, hj, hjx⟩ := List.getElem_of_mem hx
      have := hbef j x (by rw [← HL.out]; exact hj) (by rw [← hjx]; simp)
      rw [this]; rfl
    have HFI := Lib.hid hfil
    clear hfil hbef hat
    go_wp2_with fail
    go_ret
    refine ⟨i0, rfl, by rw [HFI.out, HL.out], ?_, hm1.mono (fun _ _ h => h.elim)⟩
    rw [HFI.out]
    exact hm1.own hown (fun _ _ h => h)

set_option maxHeartbeats 2000000 in
theorem deleteFunc_btw (w : World) (B n : Nat) (a : Option Addr) (c : Nat) (L : List It) (q q' : Nat) (t0 t1 : Int) (hown : w.ownsRow B 56 3 (.slice a n c) n (flat L)) (hL : L.length = n) (hn : n ≤ 1000) (hone : ∀ x ∈ L, ∃ a n c, x.v = .slice a n c) (hq : Blk w q 28 [.int .u32 t0]) (hq' : Blk w q' 28 [.int .u32 t1]) :
    Calls Try.prog 33 #[.slice a n c, .func (.func 34) #[] #[.pointer (some ⟨q, 0, none⟩), .pointer (some ⟨q', 0, none⟩)]] w fun e w' => ∃ i : Nat, e = .returned (.slice a i c) ∧ i = (L.filter (fun x => !(decide (x.t < t0) || decide (t1 < x.t)))).length ∧ w'.ownsRow B 56 3 (.slice a i c) i (flat (L.filter (fun x => !(decide (x.t < t0) || decide (t1 < x.t))))) ∧ Mod (fun k => (Value.slice a n c).ownBlock = some k) w w' := by
  obtain ⟨-, hnc, hcm⟩ := own_len hown
  have hcm' := hcm
  unfold maxLen at hcm
  have hidx := index_btw w B n a c L q q' t0 t1 hown hL hn hq hq'
  have HIDX := Lib.hid hidx
  have HL := Lib.hid hL
  clear hidx hL
  go_enter Try.func33, Try.ntmps33
  go_wp2_with fail
  refine HIDX.out.mono ?_
  rintro e w1 ⟨i0, rfl, hi0, hbef, hat, hm1⟩
  by_cases hin : i0 < n
  · obtain ⟨g, rfl⟩ : ∃ g, a = some ⟨g, 0, none⟩ := by
      rcases hown.2 with ⟨_, h0⟩ | ⟨g, cap, cur, hv, _, hg, _⟩
      · omega
      · cases hv; exact ⟨g, rfl⟩
    rw [if_pos hin]
    have hb1 : ((i0 : Int) == -1) = false := beq_eq_false_iff_ne.2 (by omega)
    obtain ⟨l0, hl0, hl0l, hl0t, hBg, -, -⟩ := own_blk (hm1.own hown (fun _ _ h => h))
    have hfil0 : (L.take i0).filter (fun x => !(decide (x.t < t0) || decide (t1 < x.t))) = L.take i0 := by
      rw [List.filter_eq_self]
      intro x hx
      obtain ⟨j, hj, hjx⟩ := List.getElem_of_mem hx
      rw [List.length_take] at hj
      have := hbef j x (by omega) (by rw [← hjx]; first | done | simp)
      rw [this]; rfl
    have hfil1 : (L.take (i0 + 1)).filter (fun x => !(decide (x.t < t0) || decide (t1 < x.t))) = L.take i0 := by
      obtain ⟨x, hx⟩ : ∃ x, L[i0]? = some x := ⟨L[i0]'(by rw [HL.out]; exact hin), by simp⟩
      rw [filter_take_succ _ L i0 x hx, hat x hx, hfil0]
      try simp
    have hcl0 : ∀ k r, k < n → r < 3 → l0[k * 3 + r]? = (L[k]?.getD ⟨0, 0, .nilFunc, []⟩).cells[r]? := by
      intro k r hk hr
      have hkL : k < L.length := by rw [HL.out]; exact hk
      have h1 : (l0.take (n * 3))[k * 3 + r]? = l0[k * 3 + r]? := by rw [List.getElem?_take, if_pos (by omega)]
      have hk' : L[k]? = some L[k] := List.getElem?_eq_getElem hkL
      rw [← h1, hl0t, flat_get L k r hkL hr, hk']
      rfl
    have hqg : ∀ (qq : Nat) {u : Value}, Blk w qq 28 [u] → ¬ qq = g := fun qq _ hqq e => own_ne_blk hown hqq (by decide) (by rw [e]; rfl)
    clear hbef hat hown
    go_wp2_with fail
    obtain ⟨wo, rfl⟩ : ∃ wo : World, wo = w1 := ⟨_, rfl⟩
    go_loopw [5, 6] (fun p q wr => ∃ (i j : Nat) (l : List Value), p = .int .i64 i ∧ q = .int .i64 j ∧ i < j ∧ j ≤ n ∧ i = ((L.take j).filter (fun x => !(decide (x.t < t0) || decide (t1 < x.t)))).length ∧ Blk wr g 56 l ∧ l.length = c * 3 ∧
        (∀ k r, k < i → r < 3 → l[k * 3 + r]? = (((L.take j).filter (fun x => !(decide (x.t < t0) || decide (t1 < x.t))))[k]?.getD ⟨0, 0, .nilFunc, []⟩).cells[r]?) ∧ (∀ k r, j ≤ k → k < n → r < 3 → l[k * 3 + r]? = (L[k]?.getD ⟨0, 0, .nilFunc, []⟩).cells[r]?) ∧ Mod (· = g) wo wr)
      (fun _ q _ => n - (intOf q).toNat)
    case atStart =>
      refine ⟨i0, i0 + 1, l0, rfl, by go_num, by omega, by omega, by rw [hfil1, List.length_take]; have := HL.out; omega, hl0, hl0l, fun k r hk hr => ?_, fun k r hj hk hr => hcl0 k r hk hr, Mod.refl _ _⟩
      rw [hfil1, List.getElem?_take, if_pos hk]
      exact hcl0 k r (by omega) hr
    case round =>
      clear hfil0 hfil1 hcl0 hl0 hl0l hl0t
      obtain ⟨i, j, l, rfl, rfl, hij, hjn, hie, hb, hll, hK, hR, hm⟩ := hrel
      by_cases hlt : j < n
      · have hjL : j < L.length := by rw [HL.out]; exact hlt
        obtain ⟨x, hx⟩ : ∃ x, x = L[j] := ⟨_, rfl⟩
        have hxj : L[j]? = some x := by rw [hx]; simp
        have c0 := hb.cell (j * 3)
        have c1 := hb.cell (j * 3 + 1)
        have c2 := hb.cell (j * 3 + 2)
        have r0 := hR j 0 (Nat.le_refl _) hlt (by omega)
        have r1 := hR j 1 (Nat.le_refl _) hlt (by omega)
        have r2 := hR j 2 (Nat.le_refl _) hlt (by omega)
        rw [hxj] at r0 r1 r2
        simp only [Nat.add_zero] at r0
        rw [r0] at c0; rw [r1] at c1; rw [r2] at c2
        obtain ⟨xt, hxt⟩ : ∃ xt, xt = x.t := ⟨_, rfl⟩
        obtain ⟨xi, hxi⟩ : ∃ xi, xi = x.id := ⟨_, rfl⟩
        obtain ⟨ax, nx, cx, hxv⟩ := hone x (List.mem_of_getElem? hxj)
        simp [It.cells, ← hxt, ← hxi, hxv] at c0 c1 c2
        have hfs := filter_take_succ (fun x => !(decide (x.t < t0) || decide (t1 < x.t))) L j x hxj
        have hxc : x.cells = [.int .u32 xt, .int .u16 xi, .slice ax nx cx] := by rw [hxt, hxi, ← hxv]; rfl
        have HXC := Lib.hid hxc
        have HXT := Lib.hid hxt
        have HXI := Lib.hid hxi
        have HFS := Lib.hid hfs
        have HIE := Lib.hid hie
        have HK := Lib.hid hK
        have HR := Lib.hid hR
        clear hx hxt hxi hxv hxj r0 r1 r2 hfs hie hK hR hxc
        obtain ⟨u0, hu0⟩ : ∃ u, l[i * 3]? = some u := ⟨l[i * 3]'(by omega), by simp⟩
        obtain ⟨u1, hu1⟩ : ∃ u, l[i * 3 + 1]? = some u := ⟨l[i * 3 + 1]'(by omega), by simp⟩
        obtain ⟨u2, hu2⟩ : ∃ u, l[i * 3 + 2]? = some u := ⟨l[i * 3 + 2]'(by omega), by simp⟩
        have HU0 := Lib.hid hu0
        have HU1 := Lib.hid hu1
        have HU2 := Lib.hid hu2
        clear hu0 hu1 hu2
        have hgn : ∀ x : Nat, x < wr.heap.size → ¬ x = wr.heap.size := fun x hx e => by omega
        go_wp2_with fail
        have hqA : Mod NoB wr (wr.alloc (.cells #[Value.int .u32 xt, .int .u16 xi, .slice ax nx cx] 56)) := (Mod.refl _ _).alloc _
        have hqw := ((hq.mod hm1 (fun h => h)).mod hm (hqg _ hq)).mod hqA (fun h => h)
        have hqw' := ((hq'.mod hm1 (fun h => h)).mod hm (hqg _ hq')).mod hqA (fun h => h)
        refine (btw_call _ _ _ _ _ _ _ _ hqw hqw').mono ?_
        rintro e w2 ⟨rfl, hm2⟩
        have hb2 := (hb.mod hqA (fun h => h)).mod hm2 (fun h => h)
        have hbx := Blk.mod (Blk.new wr 56 [Value.int .u32 xt, .int .u16 xi, .slice ax nx cx]) hm2 (fun h => h)
        have d0 := hbx.cell 0
        have d1 := hbx.cell 1
        have d2 := hbx.cell 2
        simp at d0 d1 d2
        have e0 := (hb2.cell (i * 3)).trans HU0.out
        have e1 := (hb2.cell (i * 3 + 1)).trans HU1.out
        have e2 := (hb2.cell (i * 3 + 2)).trans HU2.out
        have f0 := hb2.frozen (i * 3)
        have f1 := hb2.frozen (i * 3 + 1)
        have f2 := hb2.frozen (i * 3 + 2)
        obtain ⟨b, hbb⟩ : ∃ b, b = (decide (xt < t0) || decide (t1 < xt)) := ⟨_, rfl⟩
        rw [← hbb]
        have HB := Lib.hid hbb
        clear hbb
        have hmw2 : Mod (· = g) wo w2 := (hm.trans' hqA (fun _ _ h => h.elim)).trans' hm2 (fun _ _ h => h.elim)
        cases b
        · go_wp2_with fail
          go_roundw
          case rel =>
            have hpx : (!(decide (x.t < t0) || decide (t1 < x.t))) = true := by simp only [← HXT.out, ← HXI.out]; rw [← HB.out]; rfl
            have hfe : (L.take (j + 1)).filter (fun x => !(decide (x.t < t0) || decide (t1 < x.t))) = (L.take j).filter (fun x => !(decide (x.t < t0) || decide (t1 < x.t))) ++ [x] := by rw [HFS.out]; simp only [hpx]; simp
            have hie := HIE.out
            have hset := ((hb2.setCell (i * 3) (.int .u32 xt)).setCell (i * 3 + 1) (.int .u16 xi)).setCell (i * 3 + 2) (.slice ax nx cx)
            refine ⟨i + 1, j + 1, _, by go_num, by go_num, by omega, by omega, by rw [hfe, List.length_append]; simp only [List.length_singleton]; omega, hset, by simp; omega, fun k r hk hr => ?_, fun k r hj hk hr => ?_, ((hmw2.setCell _ (fun _ => rfl)).setCell _ (fun _ => rfl)).setCell _ (fun _ => rfl)⟩
            · rw [set3_get l _ _ _ i k r (by omega) hr, hfe]
              by_cases hki : k = i
              · subst hki
                rw [if_pos rfl, List.getElem?_append_right (by omega), show k - ((L.take j).filter (fun x => !(decide (x.t < t0) || decide (t1 < x.t)))).length = 0 from by omega]
                simp only [List.getElem?_cons_zero, Option.getD_some]
                rw [HXC.out]
              · rw [if_neg hki, List.getElem?_append_left (by omega)]
                exact HK.out k r (by omega) hr
            · rw [set3_get l _ _ _ i k r (by omega) hr, if_neg (by omega)]
              exact HR.out k r (by omega) hk hr
          case measure => simp [intOf]; omega
        · go_wp2_with fail
          go_roundw
          case rel =>
            have hpx : (!(decide (x.t < t0) || decide (t1 < x.t))) = false := by simp only [← HXT.out, ← HXI.out]; rw [← HB.out]; rfl
            have hfe : (L.take (j + 1)).filter (fun x => !(decide (x.t < t0) || decide (t1 < x.t))) = (L.take j).filter (fun x => !(decide (x.t < t0) || decide (t1 < x.t))) := by rw [HFS.out]; simp only [hpx]; simp
            refine ⟨i, j + 1, l, rfl, by go_num, by omega, by omega, by rw [hfe]; exact HIE.out, hb2, hll, by rw [hfe]; exact HK.out, fun k r hk hkn hr => HR.out k r (by omega) hkn hr, hmw2⟩
          case measure => simp [intOf]; omega
      · obtain rfl : j = n := by omega
        have hLj : L.take j = L := List.take_of_length_le (by rw [HL.out]; omega)
        rw [hLj] at hie hK
        have hij' : ¬ c = i := by omega
        have hclr := fun ty => run_clear_blk (P := Try.prog) (e := 56) (t := 50) (ty := ty) (elem := 56) (z := zItem) (g := g) (o := i * 3) (n := j - i) (c := c - i) Try.underlying50 Try.zero56 (zl := zItemL) rfl ones_zItem hb (by omega) (by rw [hll, len_zItem]; omega)
        have hfl := flat_ext l (L.filter (fun x => !(decide (x.t < t0) || decide (t1 < x.t)))) i hie.symm hK (by omega)
        have HFL := Lib.hid hfl
        have HIE := Lib.hid hie
        clear hie hK hR hLj hfl
        go_wp2_with fail
        go_ret
        refine ⟨i, rfl, HIE.out, ?_, ?_⟩
        · have := blk_own (hb.setRow (splice l (i * 3) (List.replicate (j - i) zItemL).flatten)) (c := c) (size := 3) (by rw [length_splice _ _ _ (by rw [length_zeros, hll, len_zItem]; omega), hll]) hBg (n := i) (by omega) hcm'
          rw [take_splice_after _ _ _ _ (Nat.le_refl _) (by omega), HFL.out] at this
          exact this
        · have hall : Mod (fun k => (Value.slice (some ⟨g, 0, none⟩) j c).ownBlock = some k) w wr := (hm1.mono (fun _ _ h => h.elim)).trans' hm (fun k _ e => by cases e; rfl)
          exact hall.setRow (fun _ => rfl) _
  · obtain rfl : i0 = n := by omega
    rw [if_neg hin]
    have hfil : L.filter (fun x => !(decide (x.t < t0) || decide (t1 < x.t))) = L := by
      rw [List.filter_eq_self]
      intro x hx
      obtain ⟨j, hj, hjx⟩ := List.getElem_of_mem hx
      have := hbef j x (by rw [← HL.out]; exact hj) (by rw [← hjx]; simp)
      rw [this]; rfl
    have HFI := Lib.hid hfil
    clear hfil hbef hat
    go_wp2_with fail
    go_ret
    refine ⟨i0, rfl, by rw [HFI.out, HL.out], ?_, hm1.mono (fun _ _ h => h.elim)⟩
    rw [HFI.out]
    exact hm1.own hown (fun _ _ h => h)
end Go.Proofs.Ytelfhcojpigkoaa
