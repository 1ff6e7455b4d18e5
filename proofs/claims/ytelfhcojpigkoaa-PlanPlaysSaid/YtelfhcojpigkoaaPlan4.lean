/- Contracts of package plan: nil plans; what All hands out. -/
import Derived.Test.YtelfhcojpigkoaaOnce
import Derived.Test.YtelfhcojpigkoaaBytes
namespace Go.Proofs.Ytelfhcojpigkoaa
open Go Go.RowKit

section
variable (w : World)
theorem delete_nilp (id : Int) : Calls Try.prog 28 #[.pointer none, .int .u16 id] w fun e w' => e = .returned (.int .i64 3) ∧ Mod NoB w w' := by
  go_enter Try.func28, Try.ntmps28
  go_wp2_with fail
  go_quiet (fail)
  go_wp2_with fail
  go_ret
  exact ⟨rfl, ((Mod.refl _ w).alloc _).drewN _⟩
theorem shift_nilp (by_ : Int) : Calls Try.prog 29 #[.pointer none, .int .i32 by_] w fun e w' => e = .returned (.int .i64 0) ∧ w' = w := by
  go_enter Try.func29, Try.ntmps29
  go_wp2
  go_ret
  exact ⟨rfl, rfl⟩
theorem enable_nilp (on : Bool) : Calls Try.prog 30 #[.pointer none, .bool on] w fun e w' => e = .returned (.tuple #[]) ∧ w' = w := by
  go_enter Try.func30, Try.ntmps30
  go_wp2
  go_end0
  exact ⟨rfl, rfl⟩
theorem clear_nilp : Calls Try.prog 31 #[.pointer none] w fun e w' => e = .returned (.int .i64 0) ∧ w' = w := by
  go_enter Try.func31, Try.ntmps31
  go_wp2_with (go_at_call 10; refine (len_nil w).mono ?_; rintro e w1 ⟨rfl, h⟩; obtain rfl := h.symm)
  go_ret
  exact ⟨rfl, rfl⟩
theorem next_nilp : Calls Try.prog 14 #[.pointer none] w fun e w' => e = .returned (.tuple #[.int .u32 0, .bool false]) ∧ w' = w := by
  go_enter Try.func14, Try.ntmps14
  go_wp2_with (go_at_call 10; refine (len_nil w).mono ?_; rintro e w1 ⟨rfl, h⟩; obtain rfl := h.symm)
  go_ret2
  exact ⟨rfl, rfl⟩
theorem all_nilp : Calls Try.prog 17 #[.pointer none] w fun e w' => e = .returned (.slice none 0 0) ∧ w' = w := by
  go_enter Try.func17, Try.ntmps17
  go_wp2
  go_ret
  exact ⟨rfl, rfl⟩
theorem index_nil (f : Value) : Calls Try.prog 38 #[.slice none 0 0, f] w fun e w' => e = .returned (.int .i64 (-1)) ∧ w' = w := by
  go_enter Try.func38, Try.ntmps38
  go_wp2
  go_loop [8] (fun i => i = .int .i64 0) (fun _ => 0)
  case atStart => exact rfl
  case round =>
    subst hrel
    go_wp2
    go_ret
    exact ⟨rfl, rfl⟩
theorem deleteFunc_nil (f : Value) : Calls Try.prog 33 #[.slice none 0 0, f] w fun e w' => e = .returned (.slice none 0 0) ∧ w' = w := by
  go_enter Try.func33, Try.ntmps33
  go_wp2_with (go_at_call 38; refine (index_nil w _).mono ?_; rintro e w1 ⟨rfl, h⟩; obtain rfl := h.symm)
  go_ret
  exact ⟨rfl, rfl⟩
theorem between_nilp (a b : Int) : Calls Try.prog 19 #[.pointer none, .int .u32 a, .int .u32 b] w fun e w' => e = .returned (.slice none 0 0) ∧ Mod NoB w w' := by
  go_enter Try.func19, Try.ntmps19
  go_wp2_with fail
  refine (all_nilp _).mono ?_
  rintro e w1 ⟨rfl, h⟩
  obtain rfl := h.symm
  go_wp2_with fail
  refine (deleteFunc_nil _ _).mono ?_
  rintro e w1 ⟨rfl, h⟩
  obtain rfl := h.symm
  go_wp2_with fail
  go_ret
  exact ⟨rfl, ((Mod.refl _ w).alloc _).alloc _⟩

def actV (d t id : Int) (tc : Value) (by_ : Int) (on : Bool) : Value := .agg #[.int .u8 d, .int .u32 t, .int .u16 id, tc, .int .i32 by_, .bool on]
theorem do_nilp (d t id : Int) (a : Option Addr) (n c : Nat) (by_ : Int) (on : Bool) (hd : 0 ≤ d ∧ d ≤ 255) :
    Calls Try.prog 13 #[.pointer none, .agg #[.int .u8 d, .int .u32 t, .int .u16 id, .slice a n c, .int .i32 by_, .bool on]] w fun e w' => ∃ r, e = .returned (.tuple #[.int .i64 r, .slice none 0 0]) ∧ (r = if d % 8 < 4 then 3 else 0) ∧ Mod NoB w w' := by
  have h8 : d % 8 = 0 ∨ d % 8 = 1 ∨ d % 8 = 2 ∨ d % 8 = 3 ∨ d % 8 = 4 ∨ d % 8 = 5 ∨ d % 8 = 6 ∨ d % 8 = 7 := by omega
  obtain ⟨d0, d1⟩ := hd
  obtain ⟨m, hm⟩ : ∃ m, m = d % 8 := ⟨_, rfl⟩
  rw [← hm] at h8 ⊢
  have hwrap : d % 8 = m := hm.symm
  clear hm
  rcases h8 with rfl | rfl | rfl | rfl | rfl | rfl | rfl | rfl
  all_goals
    go_enter Try.func13, Try.ntmps13
    go_wp2_with (first
      | (go_at_call 8; refine (insert_nil _ _ _ _).mono ?_; rintro e w1 ⟨rfl, h⟩; obtain rfl := h.symm)
      | (go_at_call 28; refine (delete_nilp _ _).mono ?_; rintro e w1 ⟨rfl, hm⟩)
      | (go_at_call 9; refine (due_nil _ _).mono ?_; rintro e w1 ⟨rfl, h⟩; obtain rfl := h.symm)
      | (go_at_call 29; refine (shift_nilp _ _).mono ?_; rintro e w1 ⟨rfl, h⟩; obtain rfl := h.symm)
      | (go_at_call 30; refine (enable_nilp _ _).mono ?_; rintro e w1 ⟨rfl, h⟩; obtain rfl := h.symm)
      | (go_at_call 31; refine (clear_nilp _).mono ?_; rintro e w1 ⟨rfl, h⟩; obtain rfl := h.symm))
    go_ret2
    first
    | exact ⟨_, rfl, by decide, (Mod.refl _ w).alloc _⟩
    | exact ⟨_, rfl, by decide, ((Mod.refl _ w).alloc _).trans hm⟩
end

theorem cell_stale {w : World} (o : Obj) : True := trivial

/-- An item's copy. -/
def Copied (w : World) (B : Nat) (x y : It) : Prop := y.t = x.t ∧ y.id = x.id ∧ y.tc = x.tc ∧ TcAt w B y

set_option maxHeartbeats 2000000 in
/-- copied: items of their own. -/
theorem copied_walk (w : World) (B n : Nat) (a : Option Addr) (c : Nat) (L : List It) (hown : w.ownsRow B 56 3 (.slice a n c) n (flat L)) (hL : L.length = n) (hn : n ≤ 1000) (htc : ∀ x ∈ L, TcAt w B x) :
    Calls Try.prog 32 #[.slice a n c] w fun e w' => ∃ a' c' L', e = .returned (.slice a' n c') ∧ w'.ownsRow w.heap.size 56 3 (.slice a' n c') n (flat L') ∧ L'.length = n ∧
      (∀ (k : Nat) (x y : It), L[k]? = some x → L'[k]? = some y → Copied w' w.heap.size x y) ∧ Mod NoB w w' := by
  have HL := Lib.hid hL
  clear hL
  go_enter Try.func32, Try.ntmps32
  go_wp2_with fail
  go_loopw [3, 8] (fun q i wr => ∃ (k : Nat) (L' : List It), k ≤ n ∧ i = .int .i64 k ∧ L'.length = k ∧ wr.ownsRow w.heap.size 56 3 q k (flat L') ∧ (∀ (k : Nat) (x y : It), L[k]? = some x → L'[k]? = some y → Copied wr w.heap.size x y) ∧ Mod NoB w wr) (fun _ i _ => n - (intOf i).toNat)
  case atStart => exact ⟨0, [], Nat.zero_le _, rfl, rfl, World.ownsRow_nil _ _ _ _, by simp, Mod.refl _ _⟩
  case round =>
    obtain ⟨k, L', hk, rfl, hL', hq, hcp, hm⟩ := hrel
    by_cases hlt : k < n
    · have hkL : k < L.length := by rw [HL.out]; exact hlt
      obtain ⟨x, hx⟩ : ∃ x, x = L[k] := ⟨_, rfl⟩
      have hxk : L[k]? = some x := by rw [hx]; simp
      have htx := htc x (List.mem_of_getElem? hxk)
      obtain ⟨g, rfl, hcell⟩ : ∃ g, a = some ⟨g, 0, none⟩ ∧ ∀ i, i < 3 → w.cell? ⟨g, k * 3 + i, none⟩ = x.cells[i]? := by
        rcases hown.2 with ⟨_, h0⟩ | ⟨g, cap, cur, hv, _, hg, _⟩
        · omega
        · cases hv
          exact ⟨g, rfl, fun i hi => by rw [hown.cellAt _ (by omega), flat_get L k i hkL hi, ← hx]⟩
      have c0 := hm.cell (hcell 0 (by omega)) (fun h => h)
      have c1 := hm.cell (hcell 1 (by omega)) (fun h => h)
      have c2 := hm.cell (hcell 2 (by omega)) (fun h => h)
      obtain ⟨ax, cx, hxv⟩ := own_slice htx.1
      have hrx : Rd w ax x.tc := by have := htx.1; rw [hxv] at this; exact Rd.of_own this
      simp [It.cells, hxv] at c0 c1 c2
      obtain ⟨xt, hxt⟩ : ∃ xt, xt = x.t := ⟨_, rfl⟩
      obtain ⟨xi, hxi⟩ : ∃ xi, xi = x.id := ⟨_, rfl⟩
      obtain ⟨xl, hxl⟩ : ∃ xl, xl = x.tc := ⟨_, rfl⟩
      rw [← hxt] at c0
      rw [← hxi] at c1
      rw [← hxl] at c2 hrx
      have h1l : Ones xl := by rw [hxl]; exact htx.2.1
      have hll : xl.length ≤ 208 := by rw [hxl]; exact htx.2.2
      have hnil : ax = none → xl = [] := by
        intro h
        subst h
        by_cases hne : xl = []
        · exact hne
        · obtain ⟨b, o, h, _⟩ := hrx hne
          cases h
      have hsp : (Value.slice ax xl.length cx = .slice none 0 0 ∧ xl = []) ∨ ∃ a c, Value.slice ax xl.length cx = .slice (some a) xl.length c ∧ Arr (wr.alloc (.cells #[Value.int .u32 xt, .int .u16 xi, .slice ax xl.length cx] 56)) a xl := by
        cases ax with
        | none =>
          left
          have h0 := hnil rfl
          rcases htx.1.2 with ⟨h1, _⟩ | ⟨g', cap', cur', h1, _⟩
          · rw [hxv] at h1; exact ⟨by rw [← hxl] at h1; exact h1, h0⟩
          · rw [hxv] at h1; cases h1
        | some ad =>
          right
          refine ⟨ad, cx, rfl, ?_⟩
          obtain ⟨b, o, sp⟩ := ad
          by_cases hne : xl = []
          · rw [hne]; intro j u hu; simp at hu
          · obtain ⟨b', o', h, _, _⟩ := hrx hne
            cases h
            exact ((hrx.nob hm).nob ((Mod.refl _ _).alloc _)).arr
      have HX := Lib.hid hx
      have HXT := Lib.hid hxt
      have HXI := Lib.hid hxi
      have HXL := Lib.hid hxl
      have HXK := Lib.hid hxk
      clear hx hxt hxi hxl hxk hxv hcell hnil
      go_wp2_with fail
      refine (clone_any _ _ xl (by omega) h1l hsp).mono ?_
      rintro e w2 ⟨a2, c2', rfl, ho2, -, hm2⟩
      have hbx := Blk.mod (Blk.new wr 56 [Value.int .u32 xt, .int .u16 xi, .slice ax xl.length cx]) hm2 (fun h => h)
      have d0 := hbx.cell 0
      have d1 := hbx.cell 1
      have d2 := hbx.cell 2
      have f2 := hbx.frozen 2
      simp at d0 d1 d2
      have hbS := hbx.setCell 2 (.slice a2 xl.length c2')
      have hset : Mod (· = wr.heap.size) w2 (w2.setCell ⟨wr.heap.size, 2, none⟩ (.slice a2 xl.length c2')) := (Mod.refl _ _).setCell _ (fun _ => rfl)
      have hbW := Blk.new (w2.setCell ⟨wr.heap.size, 2, none⟩ (.slice a2 xl.length c2')) 56 [Value.int .u32 xt, .int .u16 xi, .slice a2 xl.length c2']
      rw [show (w2.setCell ⟨wr.heap.size, 2, none⟩ (.slice a2 xl.length c2')).heap.size = w2.heap.size from by simp] at hbW
      have hmA : Mod (· = wr.heap.size) wr ((w2.setCell ⟨wr.heap.size, 2, none⟩ (.slice a2 xl.length c2')).alloc (.cells [Value.int .u32 xt, .int .u16 xi, .slice a2 xl.length c2'].toArray 56)) :=
        (((((Mod.refl NoB wr).alloc _).trans hm2).mono (fun _ _ h => h.elim)).trans' hset (fun _ _ h => h)).alloc _
      have hqlt : ∀ k', u3.ownBlock = some k' → ¬ k' = wr.heap.size := fun k' h e => by have := (hq.lt k' h).2; omega
      obtain ⟨v', w3, hrun, hown3, hm3, hb3, hn3⟩ := append_own (P := Try.prog) Try.elem56 (hmA.own hq hqlt) (m := 1) (by simp) (hbW.arr 0) (fun u hu => by simp at hu; rcases hu with rfl | rfl | rfl <;> rfl) (by unfold maxLen; omega) (by omega) (by have := hm.size; have := hmA.size; omega)
      go_wp2_with (at_builtin; refine wpList_of_run rfl (exec_builtin2 (b := .append) (fun _ _ _ _ => rfl) _ _ 50 50 rfl rfl rfl (hrun _ _)) ?_)
      go_roundw
      case rel =>
        have hu3A := hmA.own hq hqlt
        refine ⟨k + 1, L' ++ [⟨xt, xi, .slice a2 xl.length c2', xl⟩], by omega, by go_num, by simp; omega, ?_, fun j x' y hx' hy => ?_, ?_⟩
        · rw [flat_append]; exact hown3
        · by_cases hjk : j < k
          · rw [List.getElem?_append_left (by omega)] at hy
            have hc := hcp j x' y hx' hy
            refine ⟨hc.1, hc.2.1, hc.2.2.1, ?_⟩
            have i1 := hc.2.2.2.mod hmA (fun g hg e => by have := own_lt hc.2.2.2.1 hg; omega)
            exact i1.mod hm3 (fun g hg e => own_ne_own i1.1 hu3A (by decide) g hg e)
          · have hj : j = k := by
              have := (List.getElem?_eq_some_iff.1 hy).1
              simp at this
              omega
            subst hj
            rw [List.getElem?_append_right (by omega)] at hy
            simp [hL'] at hy
            subst hy
            rw [HXK.out] at hx'
            obtain rfl := Option.some.inj hx'
            refine ⟨HXT.out, HXI.out, HXL.out, ?_⟩
            have hb2 : w.heap.size ≤ (wr.alloc (.cells #[Value.int .u32 xt, .int .u16 xi, .slice ax xl.length cx] 56)).heap.size := by have := hm.size; simp; omega
            have i0 := own_mono ho2 hb2
            have i1 := hset.own i0 (fun g hg e => own_ne_blk i0 hbx (by decide) (by rw [hg, e]))
            have i2 := (Mod.alloc (Mod.refl NoB _) (.cells [Value.int .u32 xt, .int .u16 xi, .slice a2 xl.length c2'].toArray 56)).own i1 (fun _ _ h => h)
            exact ⟨hm3.own i2 (fun g hg e => own_ne_own i2 hu3A (by decide) g hg e), h1l, hll⟩
        · refine (hm.trans' hmA (fun k' hk' e => ?_)).trans' hm3 (fun k' hk' e => ?_)
          · have := hm.size; omega
          · have := (hq.lt k' e).1; omega
      case measure => simp [intOf]; omega
    · obtain rfl : k = n := by omega
      obtain ⟨a', c', rfl⟩ := own_slice hq
      go_wp2_with fail
      go_ret
      exact ⟨a', c', L', rfl, hq, hL', hcp, hm⟩

theorem all_walk {B : Nat} {w : World} {p : Nat} {v : Value} {M : Nat} {ml : List (Int × Value)} {L : List It} {off : Bool} (h : PlanAt B w p v M ml L off) :
    Calls Try.prog 17 #[.pointer (some ⟨p, 0, none⟩)] w fun e w' => ∃ a' c' L', e = .returned (.slice a' L.length c') ∧ w'.ownsRow w.heap.size 56 3 (.slice a' L.length c') L.length (flat L') ∧ L'.length = L.length ∧
      (∀ (k : Nat) (x y : It), L[k]? = some x → L'[k]? = some y → Copied w' w.heap.size x y) ∧ Mod NoB w w' := by
  obtain ⟨a, c, rfl⟩ := own_slice h.own
  obtain ⟨n, hn⟩ : ∃ n, n = L.length := ⟨_, rfl⟩
  have hc0 := h.blk.cell 0
  have ho := h.own
  simp at hc0
  rw [← hn] at hc0 ho ⊢
  have hcp := copied_walk w B n a c L ho hn.symm (by have := h.few; omega) h.tcs
  have HC := Lib.hid hcp
  clear hcp hn ho h
  go_enter Try.func17, Try.ntmps17
  go_wp2_with fail
  refine HC.out.mono ?_
  rintro e w' ⟨a', c', L', rfl, h1, h2, h3, h4⟩
  go_wp2_with fail
  go_ret
  exact ⟨a', c', L', rfl, h1, h2, h3, h4⟩
end Go.Proofs.Ytelfhcojpigkoaa
