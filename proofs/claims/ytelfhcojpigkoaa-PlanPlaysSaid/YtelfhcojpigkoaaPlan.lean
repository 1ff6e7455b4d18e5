/- Contracts of package plan. -/
import Derived.Test.YtelfhcojpigkoaaLib
import Derived.Test.YtelfhcojpigkoaaMapInt
namespace Go.Proofs.Ytelfhcojpigkoaa
open Go Go.RowKit

/-- An item: its time, its number, its command's slice, what that reads as. -/
structure It where
  t : Int
  id : Int
  v : Value
  tc : List Value
def It.cells (x : It) : List Value := [.int .u32 x.t, .int .u16 x.id, x.v]
def flat (L : List It) : List Value := L.flatMap It.cells
theorem flat_length (L : List It) : (flat L).length = L.length * 3 := by
  induction L with
  | nil => rfl
  | cons x L ih => simp [flat, It.cells] at *; omega
theorem flat_append (L L' : List It) : flat (L ++ L') = flat L ++ flat L' := by simp [flat]
theorem flat_take (L : List It) (k : Nat) : (flat L).take (k * 3) = flat (L.take k) := by
  induction L generalizing k with
  | nil => simp [flat]
  | cons x L ih =>
    cases k with
    | zero => simp [flat]
    | succ k =>
      have : (k + 1) * 3 = k * 3 + 1 + 1 + 1 := by omega
      rw [this]
      simp only [flat, List.flatMap_cons, It.cells, List.cons_append, List.nil_append, List.take_succ_cons] at *
      rw [ih]
theorem flat_drop (L : List It) (k : Nat) : (flat L).drop (k * 3) = flat (L.drop k) := by
  induction L generalizing k with
  | nil => simp [flat]
  | cons x L ih =>
    cases k with
    | zero => simp [flat]
    | succ k =>
      have : (k + 1) * 3 = k * 3 + 1 + 1 + 1 := by omega
      rw [this]
      simp only [flat, List.flatMap_cons, It.cells, List.cons_append, List.nil_append, List.drop_succ_cons] at *
      rw [ih]
theorem flat_get (L : List It) (k j : Nat) (hk : k < L.length) (hj : j < 3) : (flat L)[k * 3 + j]? = (L[k].cells)[j]? := by
  induction L generalizing k with
  | nil => simp at hk
  | cons x L ih =>
    cases k with
    | zero =>
      simp only [flat, List.flatMap_cons]
      rw [List.getElem?_append_left (by simp [It.cells]; omega)]
      simp
    | succ k =>
      simp only [flat, List.flatMap_cons]
      rw [List.getElem?_append_right (by simp [It.cells]; omega), show (k + 1) * 3 + j - x.cells.length = k * 3 + j by simp [It.cells]; omega]
      exact ih k (by simpa using hk)
theorem flat_ones {L : List It} (h : ∀ x ∈ L, x.v.oneCell' = true) : Ones (flat L) := by
  intro u hu
  obtain ⟨x, hx, hu⟩ := List.mem_flatMap.1 hu
  simp [It.cells] at hu
  rcases hu with rfl | rfl | rfl
  · rfl
  · rfl
  · exact h x hx

/-- how many of the first come up to a time -/
def lateN (ts : List Int) (now : Int) : Nat := (ts.takeWhile (fun t => decide (t ≤ now))).length
theorem lateN_le (ts : List Int) (now : Int) : lateN ts now ≤ ts.length := by
  unfold lateN
  exact (List.takeWhile_prefix _).length_le
theorem lateN_cons (t : Int) (l : List Int) (now : Int) : lateN (t :: l) now = if t ≤ now then lateN l now + 1 else 0 := by
  unfold lateN
  by_cases h : t ≤ now <;> simp [List.takeWhile_cons, h]
theorem lateN_stop (ts : List Int) (now : Int) (k : Nat) (t : Int) (hk : ts[k]? = some t) (h1 : k ≤ lateN ts now) (h2 : now < t) : lateN ts now = k := by
  induction ts generalizing k with
  | nil => simp at hk
  | cons x l ih =>
    rw [lateN_cons] at *
    cases k with
    | zero => simp at hk; subst hk; rw [if_neg (by omega)]
    | succ k =>
      simp at hk
      split at h1
      · rename_i h; rw [if_pos h, ih k hk (by omega)]
      · omega
theorem lateN_go (ts : List Int) (now : Int) (k : Nat) (t : Int) (hk : ts[k]? = some t) (h1 : k ≤ lateN ts now) (h2 : t ≤ now) : k + 1 ≤ lateN ts now := by
  induction ts generalizing k with
  | nil => simp at hk
  | cons x l ih =>
    rw [lateN_cons] at *
    cases k with
    | zero => simp at hk; subst hk; rw [if_pos h2]; omega
    | succ k =>
      simp at hk
      split at h1
      · rename_i h; rw [if_pos h]; have := ih k hk (by omega); omega
      · omega
/-- In a rising list: who is early comes ahead of the place, who is late behind it. -/
theorem lateN_mid (ts : List Int) (now : Int) (hs : ts.Pairwise (· ≤ ·)) (k : Nat) (t : Int) (hk : ts[k]? = some t) : (t ≤ now → k + 1 ≤ lateN ts now) ∧ (now < t → lateN ts now ≤ k) := by
  induction ts generalizing k with
  | nil => simp at hk
  | cons x l ih =>
    rw [lateN_cons]
    rw [List.pairwise_cons] at hs
    cases k with
    | zero => simp at hk; subst hk; constructor <;> intro h <;> split <;> omega
    | succ k =>
      simp at hk
      have hx : x ≤ t := hs.1 t (List.mem_of_getElem? hk)
      have := ih hs.2 k hk
      constructor
      · intro h; rw [if_pos (by omega)]; have := this.1 h; omega
      · intro h; split
        · have := this.2 h; omega
        · omega

def times (L : List It) : List Int := L.map It.t
def cmpI (x t : Int) : Int := if x ≤ t then -1 else 1
/-- plan.Insert's own comparison. -/
theorem cmp_walk (w : World) (x id : Int) (v : Value) (t : Int) (hx : 0 ≤ x) (ht : 0 ≤ t) :
    Calls Try.prog 22 #[.agg #[.int .u32 x, .int .u16 id, v], .int .u32 t] w fun e w' => e = .returned (.int .i64 (cmpI x t)) ∧ Mod NoB w w' := by
  have hc1 : x ≤ t → cmpI x t = -1 := fun h => if_pos h
  have hc2 : t < x → cmpI x t = 1 := fun h => if_neg (by omega)
  by_cases h : x ≤ t
  · have HF := Lib.hid (hc1 h)
    clear hc1 hc2
    go_enter Try.func22, Try.ntmps22
    go_wp2
    go_ret
    exact ⟨by rw [HF.out]; rfl, (Mod.refl _ w).alloc _⟩
  · have h' : t < x := by omega
    have HF := Lib.hid (hc2 h')
    clear hc1 hc2
    go_enter Try.func22, Try.ntmps22
    go_wp2
    go_ret
    exact ⟨by rw [HF.out]; rfl, (Mod.refl _ w).alloc _⟩

set_option maxHeartbeats 1000000 in
theorem search_walk (w : World) (base n : Nat) (a : Option Addr) (c : Nat) (L : List It) (t : Int) (hown : w.ownsRow base 56 3 (.slice a n c) n (flat L)) (hn : n ≤ 1000) (hL : L.length = n) (hs : (times L).Pairwise (· ≤ ·)) (ht : 0 ≤ t ∧ t < 4294967296) (hx : ∀ x ∈ L, 0 ≤ x.t) :
    Calls Try.prog 21 #[.slice a n c, .int .u32 t, .func (.func 22) #[] #[]] w fun e w' => e = .returned (.tuple #[.int .i64 (lateN (times L) t), .bool false]) ∧ Mod NoB w w' := by
  obtain ⟨N, hN⟩ : ∃ N, N = lateN (times L) t := ⟨_, rfl⟩
  rw [← hN]
  have hNn : N ≤ n := by rw [hN, ← hL]; have := lateN_le (times L) t; simpa [times] using this
  have hmid : ∀ k, k < n → ∃ x id v, (0 ≤ x) ∧ (∃ g, a = some ⟨g, 0, none⟩ ∧ g < w.heap.size ∧ w.cell? ⟨g, k * 3, none⟩ = some (.int .u32 x) ∧ w.cell? ⟨g, k * 3 + 1, none⟩ = some (.int .u16 id) ∧ w.cell? ⟨g, k * 3 + 2, none⟩ = some v) ∧ (x ≤ t → k + 1 ≤ N) ∧ (t < x → N ≤ k) := by
    intro k hk
    obtain ⟨x, hxk⟩ : ∃ x, L[k]? = some x := ⟨L[k], by simp [hL, hk]⟩
    have hx' : x ∈ L := List.mem_of_getElem? hxk
    have htk : (times L)[k]? = some x.t := by simp [times, hxk]
    have hm := lateN_mid (times L) t hs k x.t htk
    rw [← hN] at hm
    refine ⟨x.t, x.id, x.v, hx x hx', ?_, hm⟩
    rcases hown.2 with ⟨h, h0⟩ | ⟨g, cap, cur, h, _, hg, _⟩
    · omega
    · cases h
      have hcell : ∀ j, j < 3 → w.cell? ⟨g, k * 3 + j, none⟩ = x.cells[j]? := by
        intro j hj
        rw [hown.cellAt (k * 3 + j) (by omega), flat_get L k j (by omega) hj]
        have : L[k]'(by omega) = x := by
          have := hxk; rw [List.getElem?_eq_getElem (by omega)] at this; exact Option.some.inj this
        rw [this]
      exact ⟨g, rfl, lt_of_heap hg, hcell 0 (by omega), hcell 1 (by omega), hcell 2 (by omega)⟩
  clear hs hx hown hN
  go_enter Try.func21, Try.ntmps21
  go_wp2
  go_loopw [9, 10] (fun p q wr => ∃ i j : Nat, p = .int .i64 i ∧ q = .int .i64 j ∧ i ≤ N ∧ N ≤ j ∧ j ≤ n ∧ Mod NoB w wr) (fun p q _ => (intOf q).toNat - (intOf p).toNat)
  case atStart => exact ⟨0, n, rfl, rfl, Nat.zero_le _, hNn, Nat.le_refl _, Mod.refl _ _⟩
  case round =>
    obtain ⟨i, j, rfl, rfl, hi, hj, hjn, hm⟩ := hrel
    by_cases hlt : i < j
    · obtain ⟨h, hh⟩ : ∃ h : Nat, h = (i + j) / 2 := ⟨_, rfl⟩
      have he : ((i : Int) + (j : Int)) / 2 = (h : Int) := by omega
      have hin : h < n := by omega
      have hih : i ≤ h := by omega
      have hhj : h < j := by omega
      obtain ⟨x, id, v, hx0, ⟨g, rfl, hgl, c0, c1, c2⟩, hm1, hm2⟩ := hmid h hin
      have c0' := hm.cell c0 (fun h => h)
      have c1' := hm.cell c1 (fun h => h)
      have c2' := hm.cell c2 (fun h => h)
      clear hh c0 c1 c2 hmid
      have hc1 : x ≤ t → cmpI x t = -1 := fun h => if_pos h
      have hc2 : t < x → cmpI x t = 1 := fun h => if_neg (by omega)
      by_cases hxt : x ≤ t
      · have hcv := hc1 hxt
        have hlo := hm1 hxt
        clear hc1 hc2 hm1 hm2
        go_wp2_with (go_at_call 22; refine (cmp_walk _ _ _ _ _ hx0 ht.1).mono ?_; rintro e w1 ⟨rfl, hmw⟩; rw [hcv])
        go_roundw
        case rel => exact ⟨h + 1, j, by go_num, rfl, hlo, hj, hjn, hm.trans hmw⟩
        case measure => simp [intOf]; omega
      · have hcv := hc2 (by omega)
        have hlo := hm2 (by omega)
        clear hc1 hc2 hm1 hm2
        go_wp2_with (go_at_call 22; refine (cmp_walk _ _ _ _ _ hx0 ht.1).mono ?_; rintro e w1 ⟨rfl, hmw⟩; rw [hcv])
        go_roundw
        case rel => exact ⟨i, h, rfl, rfl, hi, hlo, by omega, hm.trans hmw⟩
        case measure => simp [intOf]; omega
    · obtain rfl : i = N := by omega
      by_cases hin : i < n
      · obtain ⟨x, id, v, hx0, ⟨g, rfl, hgl, c0, c1, c2⟩, hm1, hm2⟩ := hmid i hin
        have c0' := hm.cell c0 (fun h => h)
        have c1' := hm.cell c1 (fun h => h)
        have c2' := hm.cell c2 (fun h => h)
        have hcv : cmpI x t = 1 := if_neg (fun h => by have := hm1 h; omega)
        clear c0 c1 c2 hmid hm1 hm2
        go_wp2_with (go_at_call 22; refine (cmp_walk _ _ _ _ _ hx0 ht.1).mono ?_; rintro e w1 ⟨rfl, hmw⟩; rw [hcv])
        go_ret2
        exact ⟨rfl, hm.trans hmw⟩
      · go_wp2_with fail
        go_ret2
        exact ⟨rfl, hm⟩

theorem Try.under29 : Try.prog.underlying 29 = some (.int .u16) := by kernel_rfl
theorem Try.zero4 (w : World) : (zeroValue 4).run Try.prog w = .ok (.bool false) w := by kernel_rfl

/-- The numbers that the map holds are the items'. -/
def IdsOk (ml : List (Int × Value)) (L : List It) : Prop := (ml.map (·.1)).Nodup ∧ ∀ a, mget ml a = if L.any (fun x => x.id == a) then some (.bool true) else none
/-- A command's bytes. -/
def TcAt (w : World) (B : Nat) (x : It) : Prop := w.ownsRow B 5 1 x.v x.tc.length x.tc ∧ Ones x.tc ∧ x.tc.length ≤ 208

structure PlanAt (B : Nat) (w : World) (p : Nat) (v : Value) (M : Nat) (ml : List (Int × Value)) (L : List It) (off : Bool) : Prop where
  blk : Blk w p 61 [v, .map (some M), .bool off]
  own : w.ownsRow B 56 3 v L.length (flat L)
  map : MapAt w M .u16 ml
  ids : IdsOk ml L
  tcs : ∀ x ∈ L, TcAt w B x
  low : B ≤ p ∧ B ≤ M
  few : L.length ≤ 32
  rng : ∀ x ∈ L, 0 ≤ x.t ∧ x.t < 4294967296
  srt : (times L).Pairwise (· ≤ ·)
  uniq : (L.map It.id).Nodup
/-- The blocks that a plan writes. -/
def foot (p : Nat) (v : Value) (M : Nat) : Nat → Prop := fun k => k = p ∨ k = M ∨ v.ownBlock = some k

section
variable {B : Nat} {w w' : World} {p : Nat} {v : Value} {M : Nat} {ml : List (Int × Value)} {L : List It} {off : Bool}
theorem TcAt.mod {S : Nat → Prop} {x : It} (h : TcAt w B x) (hm : Mod S w w') (hn : ∀ g, x.v.ownBlock = some g → ¬ S g) : TcAt w' B x := ⟨hm.own h.1 hn, h.2⟩
/-- A command lies in none of the plan's own blocks. -/
theorem PlanAt.apart (h : PlanAt B w p v M ml L off) {x : It} (hx : TcAt w B x) (g : Nat) (hg : x.v.ownBlock = some g) : ¬ foot p v M g := by
  rintro (rfl | rfl | h')
  · exact own_ne_blk hx.1 h.blk (by decide) hg
  · exact own_ne_map hx.1 h.map hg
  · exact own_ne_own hx.1 h.own (by decide) g hg h'
theorem PlanAt.mod {S : Nat → Prop} (h : PlanAt B w p v M ml L off) (hm : Mod S w w') (hn : ∀ k, B ≤ k → ¬ S k) : PlanAt B w' p v M ml L off :=
  have ho : ∀ k, v.ownBlock = some k → ¬ S k := fun k hk => hn k (h.own.lt k hk).1
  { blk := h.blk.mod hm (hn p h.low.1), own := hm.own h.own ho, map := h.map.mod hm (hn M h.low.2), ids := h.ids,
    tcs := fun x hx => (h.tcs x hx).mod hm (fun g hg => hn g ((h.tcs x hx).1.lt g hg).1), low := h.low, few := h.few, rng := h.rng, srt := h.srt, uniq := h.uniq }
theorem PlanAt.ones (h : PlanAt B w p v M ml L off) : Ones (flat L) := flat_ones fun x hx => own_one (h.tcs x hx).1
end

end Go.Proofs.Ytelfhcojpigkoaa
