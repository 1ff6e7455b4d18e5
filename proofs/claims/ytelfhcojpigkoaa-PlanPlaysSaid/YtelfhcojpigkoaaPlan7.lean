/- Contracts of package plan: Shift, Clear, Between. -/
import Derived.Test.YtelfhcojpigkoaaPlan6
import Derived.WalkLawsBesides
namespace Go.Proofs.Ytelfhcojpigkoaa
open Go Go.RowKit

section
variable {B : Nat} {w w' : World} {p : Nat} {v : Value} {M : Nat} {ml : List (Int × Value)} {L : List It} {off : Bool}

def shT (by_ t : Int) : Int := if 4294967295 < (if t + by_ < 0 then 0 else t + by_) then 4294967295 else if t + by_ < 0 then 0 else t + by_
theorem shT_rng (by_ t : Int) : 0 ≤ shT by_ t ∧ shT by_ t < 4294967296 := by unfold shT; split <;> split <;> omega
theorem shT_mono (by_ s t : Int) (h : s ≤ t) : shT by_ s ≤ shT by_ t := by unfold shT; repeat' split
                                                                           all_goals omega
def sh (by_ : Int) (x : It) : It := { x with t := shT by_ x.t }
def shUp (by_ : Int) (k : Nat) (L : List It) : List It := (L.take k).map (sh by_) ++ L.drop k
theorem shUp_zero (by_ : Int) (L : List It) : shUp by_ 0 L = L := by simp [shUp]
theorem shUp_all (by_ : Int) (L : List It) : shUp by_ L.length L = L.map (sh by_) := by simp [shUp]
theorem shUp_get (by_ : Int) (k : Nat) (L : List It) (x : It) (hx : L[k]? = some x) : (shUp by_ k L)[k]? = some x := by
  have hk : k < L.length := (List.getElem?_eq_some_iff.1 hx).1
  unfold shUp
  rw [List.getElem?_append_right (by simp; omega)]
  simp
  rw [show k - min k L.length = 0 by omega]
  simpa using hx
theorem shUp_succ (by_ : Int) (k : Nat) (L : List It) (x : It) (hx : L[k]? = some x) : shUp by_ (k + 1) L = (shUp by_ k L).set k (sh by_ x) := by
  have hk : k < L.length := (List.getElem?_eq_some_iff.1 hx).1
  unfold shUp
  rw [List.take_add_one, hx, Option.toList_some, List.map_append, List.set_append_right _ _ (by simp; omega)]
  have : L.drop k = x :: L.drop (k + 1) := by
    rw [List.drop_eq_getElem_cons hk]
    congr 1
    have := hx
    rw [List.getElem?_eq_getElem hk] at this
    exact Option.some.inj this
  rw [this, show k - ((L.take k).map (sh by_)).length = 0 by simp; omega]
  simp
theorem flat_set (L : List It) (k : Nat) (x : It) (t : Int) (hx : L[k]? = some x) : (flat L).set (k * 3) (.int .u32 t) = flat (L.set k { x with t := t }) := by
  induction L generalizing k with
  | nil => simp at hx
  | cons y L ih =>
    cases k with
    | zero =>
      simp at hx
      subst hx
      simp [flat, It.cells]
    | succ k =>
      have := ih k (by simpa using hx)
      simp only [flat, List.flatMap_cons, List.set_cons_succ] at *
      rw [← this, show (k + 1) * 3 = y.cells.length + k * 3 by simp [It.cells]; omega, List.set_append_right _ _ (by omega)]
      simp

set_option maxHeartbeats 2000000 in
theorem shift_walk (h : PlanAt B w p v M ml L off) (by_ : Int) (hby : -2147483648 ≤ by_ ∧ by_ < 2147483648) :
    Calls Try.prog 29 #[.pointer (some ⟨p, 0, none⟩), .int .i32 by_] w fun e w' => e = .returned (.int .i64 L.length) ∧ PlanAt B w' p v M ml (L.map (sh by_)) off ∧ Mod (foot p v M) w w' := by
  obtain ⟨a, c, rfl⟩ := own_slice h.own
  obtain ⟨n, hn⟩ : ∃ n, n = L.length := ⟨_, rfl⟩
  have e0 := h.blk.cell 0
  simp at e0
  rw [← hn] at e0 ⊢
  have hown := h.own
  rw [← hn] at hown
  have hn32 : n ≤ 32 := by rw [hn]; exact h.few
  have HN := Lib.hid hn
  have hvp : ¬ (Value.slice a n c).ownBlock = some p := own_ne_blk hown h.blk (by decide)
  clear hn
  go_enter Try.func29, Try.ntmps29
  go_wp2_with fail
  go_loopw [14] (fun i wr => ∃ k : Nat, k ≤ n ∧ i = .int .i64 k ∧ wr.ownsRow B 56 3 (.slice a n c) n (flat (shUp by_ k L)) ∧ Mod (fun k => (Value.slice a n c).ownBlock = some k) w wr) (fun i _ => n - (intOf i).toNat)
  case atStart => exact ⟨0, Nat.zero_le _, rfl, by rw [shUp_zero]; exact hown, Mod.refl _ _⟩
  case round =>
    obtain ⟨k, hk, rfl, ho, hm⟩ := hrel
    by_cases hlt : k < n
    · have hkL : k < L.length := by rw [← HN.out]; exact hlt
      obtain ⟨x, hx⟩ : ∃ x, x = L[k] := ⟨_, rfl⟩
      have hxk : L[k]? = some x := by rw [hx]; simp
      have hxm := List.mem_of_getElem? hxk
      have hsg := shUp_get by_ k L x hxk
      have hsl : k < (shUp by_ k L).length := (List.getElem?_eq_some_iff.1 hsg).1
      obtain ⟨g, rfl⟩ : ∃ g, a = some ⟨g, 0, none⟩ := by
        rcases ho.2 with ⟨_, h0⟩ | ⟨g, cap, cur, hv, _, hg, _⟩
        · omega
        · cases hv; exact ⟨g, rfl⟩
      have hcell : ∀ i, i < 3 → wr.cell? ⟨g, k * 3 + i, none⟩ = x.cells[i]? := fun i hi => by
        rw [ho.cellAt _ (by omega), flat_get _ k i hsl hi]
        congr 2
        have := hsg
        rw [List.getElem?_eq_getElem hsl] at this
        exact Option.some.inj this
      have c0 := hcell 0 (by omega)
      have c1 := hcell 1 (by omega)
      have c2 := hcell 2 (by omega)
      obtain ⟨ax, nx, cx, hxv⟩ := h.slices x hxm
      obtain ⟨xt, hxt⟩ : ∃ xt, xt = x.t := ⟨_, rfl⟩
      obtain ⟨xi, hxi⟩ : ∃ xi, xi = x.id := ⟨_, rfl⟩
      simp [It.cells, ← hxt, ← hxi, hxv] at c0 c1 c2
      have hrg := h.rng x hxm
      rw [← hxt] at hrg
      obtain ⟨hx0, hx1⟩ := hrg
      have f0 := ho.frozenAt (k * 3)
      have p0 := hm.cell (h.blk.cell 0) hvp
      rw [← HN.out] at p0
      have hpg : ¬ p = g := fun e => hvp (by rw [e]; rfl)
      have hplt : p < wr.heap.size := by have := h.blk.lt; have := hm.size; omega
      have hglt : g < wr.heap.size := own_lt ho rfl
      have HXT := Lib.hid hxt
      have HXK := Lib.hid hxk
      have HSG := Lib.hid hsg
      clear hx hxt hxi hxv hxk hsg hsl hcell
      go_wp2_with fail
      go_region
      all_goals go_wp2_with fail
      all_goals go_roundw
      case rel =>
        refine ⟨k + 1, by omega, by go_num, ?_, ((hm.setCell (a := ⟨g, k * 3, none⟩) _ (fun _ => rfl)).alloc _).drew⟩
        rw [shUp_succ by_ k L x HXK.out]
        have hst := (ho.stored (k * 3) (.int .u32 (shT by_ xt))).1
        rw [flat_set _ k x _ HSG.out] at hst
        have hal := (Mod.alloc (Mod.refl NoB _) (.cells #[Value.int .u32 xt, .int .u16 xi, .slice ax nx cx] 56)).own hst (fun _ _ h => h)
        rw [show sh by_ x = { t := shT by_ xt, id := x.id, v := x.v, tc := x.tc } from by rw [HXT.out]; rfl]
        exact hal
      case measure => simp [intOf]; omega
    · obtain rfl : k = n := by omega
      have hall : shUp by_ k L = L.map (sh by_) := by rw [HN.out]; exact shUp_all by_ L
      rw [hall] at ho
      have p0 := hm.cell (h.blk.cell 0) hvp
      rw [← HN.out] at p0
      clear hall
      go_wp2_with fail
      go_ret
      have hk2 := HN.out
      subst hk2
      have hm' : Mod (foot p (.slice a L.length c) M) w wr := hm.mono (fun k' _ e => .inr (.inr (by cases a <;> exact e)))
      have hmem : ∀ y ∈ L.map (sh by_), ∃ x ∈ L, y = sh by_ x := fun y hy => by
        obtain ⟨x, hx, e⟩ := List.mem_map.1 hy
        exact ⟨x, hx, e.symm⟩
      have hb := h.blk.mod hm hvp
      refine ⟨rfl, ⟨hb, by rw [List.length_map]; exact ho, h.map.mod hm (own_ne_map hown h.map), ⟨h.ids.1, fun b => ?_⟩, ?_, h.low, by rw [List.length_map]; exact h.few, ?_, ?_, ?_⟩, hm'⟩
      · rw [h.ids.2, List.any_map]; rfl
      · intro y hy
        obtain ⟨x, hx, rfl⟩ := hmem y hy
        have := (h.tcs x hx).mod hm' (fun g hg => h.apart (h.tcs x hx) g hg)
        exact this
      · intro y hy
        obtain ⟨x, hx, rfl⟩ := hmem y hy
        exact shT_rng by_ x.t
      · have hs := h.srt
        unfold times at *
        rw [List.map_map, List.pairwise_map] at *
        exact hs.imp (fun {x y} hxy => shT_mono by_ x.t y.t hxy)
      · have hu := h.uniq
        rw [List.map_map]
        exact hu

theorem clear_walk (h : PlanAt B w p v M ml L off) :
    Calls Try.prog 31 #[.pointer (some ⟨p, 0, none⟩)] w fun e w' => e = .returned (.int .i64 L.length) ∧ (∃ v' ml', PlanAt B w' p v' M ml' [] off ∧ (∀ g, v'.ownBlock = some g → v.ownBlock = some g)) ∧ Mod (foot p v M) w w' := by
  have hlen := len_walk h
  have e0 := h.blk.cell 0
  have e1 := h.blk.cell 1
  have f0 := h.blk.frozen 0
  simp at e0 e1
  obtain ⟨n, hn⟩ : ∃ n, n = L.length := ⟨_, rfl⟩
  rw [← hn] at hlen ⊢
  have HLEN := Lib.hid hlen
  have HN := Lib.hid hn
  have hpM : ¬ M = p := fun e => h.map.ne_blk h.blk e
  clear hlen hn
  by_cases h0 : n = 0
  · subst h0
    have hL : L = [] := List.eq_nil_of_length_eq_zero HN.out.symm
    go_enter Try.func31, Try.ntmps31
    go_wp2_with fail
    refine HLEN.out.mono ?_
    rintro e w1 ⟨rfl, hw⟩
    obtain rfl := hw.symm
    go_wp2_with fail
    go_ret
    subst hL
    exact ⟨rfl, ⟨v, ml, h, fun g hg => hg⟩, Mod.refl _ _⟩
  · have hset : Mod (· = p) w (w.setCell ⟨p, 0, none⟩ (.slice none 0 0)) := (Mod.refl _ _).setCell _ (fun _ => rfl)
    have hb1 := h.blk.setCell 0 (.slice none 0 0)
    have y1 := hb1.cell 1
    simp at y1
    obtain ⟨w2, hclr, hmap2, hm2⟩ := run_clear_map (P := Try.prog) (ty := 0) Try.underlying59 (h.map.mod hset hpM)
    go_enter Try.func31, Try.ntmps31
    go_wp2_with fail
    refine HLEN.out.mono ?_
    rintro e w1 ⟨rfl, hw⟩
    obtain rfl := hw.symm
    go_wp2_with fail
    go_ret
    refine ⟨rfl, ⟨.slice none 0 0, [], ⟨hb1.mod hm2 (fun e => hpM e.symm), World.ownsRow_nil _ _ _ _, hmap2, ⟨by simp, fun a => rfl⟩, by simp, h.low, by simp, by simp, by simp [times], by simp⟩, fun g hg => by simp [Value.ownBlock] at hg⟩, (hset.mono (fun _ _ e => .inl e)).trans' hm2 (fun k _ e => .inr (.inl e))⟩

theorem between_walk (h : PlanAt B w p v M ml L off) (t0 t1 : Int) :
    Calls Try.prog 19 #[.pointer (some ⟨p, 0, none⟩), .int .u32 t0, .int .u32 t1] w fun e w' => ∃ a' c' L', e = .returned (.slice a' L'.length c') ∧ w'.ownsRow w.heap.size 56 3 (.slice a' L'.length c') L'.length (flat L') ∧
      (∃ L2 : List It, L2.length = L.length ∧ L' = L2.filter (fun x => !(decide (x.t < t0) || decide (t1 < x.t))) ∧ ∀ (k : Nat) (x y : It), L[k]? = some x → L2[k]? = some y → Copied w' w.heap.size x y) ∧ Mod NoB w w' := by
  obtain ⟨W, hW⟩ : ∃ W, W = (w.alloc (.cells [Value.int .u32 t0].toArray 28)).alloc (.cells [Value.int .u32 t1].toArray 28) := ⟨_, rfl⟩
  have hmW : Mod NoB w W := by rw [hW]; exact ((Mod.refl _ _).alloc _).alloc _
  have hq0 : Blk W w.heap.size 28 [.int .u32 t0] := by rw [hW]; exact (Blk.new w 28 _).alloc _
  have hq1 : Blk W (w.heap.size + 1) 28 [.int .u32 t1] := by rw [hW]; have := Blk.new (w.alloc (.cells [Value.int .u32 t0].toArray 28)) 28 [.int .u32 t1]; simpa using this
  have hP := h.mod hmW (fun _ _ h => h)
  have hall := all_walk hP
  have HALL := Lib.hid hall
  clear hall
  subst hW
  go_enter Try.func19, Try.ntmps19
  go_wp2_with fail
  refine HALL.out.mono ?_
  rintro e w2 ⟨a2, c2, L2, rfl, ho2, hL2, hcp, hm2⟩
  have hm02 := hmW.trans hm2
  have hsl : ∀ y ∈ L2, ∃ a n c, y.v = .slice a n c := fun y hy => by
    obtain ⟨k, hk, hky⟩ := List.getElem_of_mem hy
    have hkL : k < L.length := by omega
    have := (hcp k L[k] y (by simp) (by rw [← hky]; simp)).2.2.2.1
    obtain ⟨a, c, e⟩ := own_slice this
    exact ⟨a, _, c, e⟩
  have hfew := h.few
  have hdf := deleteFunc_btw w2 _ L.length a2 c2 L2 w.heap.size (w.heap.size + 1) t0 t1 ho2 hL2 (by omega) hsl (hq0.mod hm2 (fun h => h)) (hq1.mod hm2 (fun h => h))
  have HDF := Lib.hid hdf
  have HL2 := Lib.hid hL2
  clear hdf hL2
  obtain ⟨n, hn⟩ : ∃ n, n = L.length := ⟨_, rfl⟩
  rw [← hn] at HDF ho2 ⊢
  clear hn
  go_wp2_with fail
  refine HDF.out.mono ?_
  rintro e w3 ⟨i, rfl, hi, ho3, hm3⟩
  have HI := Lib.hid hi
  clear hi
  go_wp2_with fail
  go_ret
  have hi := HI.out
  subst hi
  refine ⟨a2, c2, _, rfl, own_mono ho3 (by simp; omega), ⟨L2, HL2.out, rfl, fun k x y hx hy => ?_⟩, hm02.trans' hm3 (fun k hk e => by have := (ho2.lt k e).1; simp at this; omega)⟩
  have hc := hcp k x y hx hy
  refine ⟨hc.1, hc.2.1, hc.2.2.1, ?_⟩
  have := hc.2.2.2.mod hm3 (fun g hg e => own_ne_own hc.2.2.2.1 ho2 (by decide) g hg e)
  exact ⟨own_mono this.1 (by simp; omega), this.2⟩
end
end Go.Proofs.Ytelfhcojpigkoaa
