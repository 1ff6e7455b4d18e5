/- Contracts of package plan: Due. -/
import Derived.Test.YtelfhcojpigkoaaPlan2
namespace Go.Proofs.Ytelfhcojpigkoaa
open Go Go.RowKit

theorem Try.info22 : (Try.prog.info? 22).map (fun i => (i.zero, i.size, i.bytes)) = some (some (.slice none 0 0), 1, 24) := by kernel_rfl
theorem Try.elem22 : ElemT Try.prog 31 22 1 24 := ElemT.mk' Try.info22 Try.underlying31 (by omega) rfl

theorem mget_mdel {l : List (Int × Value)} (hn : (l.map (·.1)).Nodup) (a b : Int) : mget (mdel l a) b = if a = b then none else mget l b := by
  induction l with
  | nil => simp [mget, mdel]
  | cons p l ih =>
    rw [List.map_cons, List.nodup_cons] at hn
    unfold mdel
    rw [List.findIdx_cons]
    by_cases hp : p.1 = a
    · subst hp
      simp only [beq_self_eq_true, cond_true, List.eraseIdx_zero, List.tail_cons]
      by_cases hb : p.1 = b
      · subst hb
        rw [if_pos rfl]
        unfold mget
        rw [Option.map_eq_none_iff, List.find?_eq_none]
        intro x hx hxb
        simp at hxb
        exact hn.1 (List.mem_map.2 ⟨x, hx, hxb⟩)
      · rw [if_neg hb]
        simp [mget, List.find?_cons, hb]
    · have h1 : (p.1 == a) = false := by simpa using hp
      rw [h1]
      simp only [cond_false, List.eraseIdx_cons_succ]
      have ih' := ih hn.2
      unfold mdel at ih'
      by_cases hb : p.1 = b
      · subst hb
        rw [if_neg (fun e => hp e.symm)]
        simp [mget, List.find?_cons]
      · have h2 : (p.1 == b) = false := by simpa using hb
        unfold mget at *
        simp only [List.find?_cons, h2]
        exact ih'
theorem mdel_nodup {l : List (Int × Value)} (hn : (l.map (·.1)).Nodup) (a : Int) : ((mdel l a).map (·.1)).Nodup := by
  unfold mdel
  rw [map_eraseIdx']
  exact hn.sublist (List.eraseIdx_sublist _ _)

def mdels (ml : List (Int × Value)) (L : List It) : List (Int × Value) := L.foldl (fun m x => mdel m x.id) ml
theorem ids_del {ml : List (Int × Value)} {x : It} {L : List It} (h : IdsOk ml (x :: L)) (hu : ((x :: L).map It.id).Nodup) : IdsOk (mdel ml x.id) L := by
  refine ⟨mdel_nodup h.1 _, fun a => ?_⟩
  rw [mget_mdel h.1, h.2]
  rw [List.map_cons, List.nodup_cons] at hu
  by_cases ha : x.id = a
  · subst ha
    rw [if_pos rfl]
    have : L.any (fun y => y.id == x.id) = false := by
      rw [List.any_eq_false]
      intro y hy he
      simp at he
      exact hu.1 (List.mem_map.2 ⟨y, hy, he⟩)
    rw [this]; rfl
  · rw [if_neg ha]
    simp [ha]
theorem ids_dels : ∀ (k : Nat) {ml : List (Int × Value)} {L : List It}, IdsOk ml L → (L.map It.id).Nodup → IdsOk (mdels ml (L.take k)) (L.drop k)
  | 0, ml, L, h, _ => h
  | k + 1, ml, [], h, _ => h
  | k + 1, ml, x :: L, h, hu => by
    have := ids_dels k (ids_del h hu) (by rw [List.map_cons, List.nodup_cons] at hu; exact hu.2)
    exact this
theorem mdels_snoc (ml : List (Int × Value)) (L : List It) (x : It) : mdels ml (L ++ [x]) = mdel (mdels ml L) x.id := by simp [mdels]

section
variable {B : Nat} {w w' : World} {p : Nat} {v : Value} {M : Nat} {ml : List (Int × Value)} {L : List It} {off : Bool}

/-- What Due hands out. -/
def dueVals (L : List It) : List Value := L.map It.v

theorem due_off (h : PlanAt B w p v M ml L true) (now : Int) : Calls Try.prog 9 #[.pointer (some ⟨p, 0, none⟩), .int .u32 now] w fun e w' => e = .returned (.slice none 0 0) ∧ w' = w := by
  have hc := h.blk.cell 2
  simp at hc
  clear h
  go_enter Try.func9, Try.ntmps9
  go_wp2
  go_ret
  exact ⟨rfl, rfl⟩
theorem due_nil (w : World) (now : Int) : Calls Try.prog 9 #[.pointer none, .int .u32 now] w fun e w' => e = .returned (.slice none 0 0) ∧ w' = w := by
  go_enter Try.func9, Try.ntmps9
  go_wp2
  go_ret
  exact ⟨rfl, rfl⟩

/-- What Due leaves. -/
def DuePost (B : Nat) (w : World) (p : Nat) (v : Value) (M : Nat) (ml : List (Int × Value)) (L : List It) (k : Nat) (e : Ending) (w' : World) : Prop :=
  ∃ out v', e = .returned out ∧ w'.ownsRow w.heap.size 22 1 out k (dueVals (L.take k)) ∧ (out = .slice none 0 0 ↔ k = 0) ∧ PlanAt B w' p v' M (mdels ml (L.take k)) (L.drop k) false ∧
    (∀ x ∈ L.take k, TcAt w' B x) ∧ Mod (foot p v M) w w' ∧ (∀ g, v'.ownBlock = some g → v.ownBlock = some g ∨ w.heap.size ≤ g)

set_option maxHeartbeats 2000000 in
theorem due_on (h : PlanAt B w p v M ml L false) (now : Int) (hnow : 0 ≤ now ∧ now < 4294967296) :
    Calls Try.prog 9 #[.pointer (some ⟨p, 0, none⟩), .int .u32 now] w (DuePost B w p v M ml L (lateN (times L) now)) := by
  obtain ⟨k, hk⟩ : ∃ k, k = lateN (times L) now := ⟨_, rfl⟩
  have hlate := late_walk h now hnow
  rw [← hk] at hlate ⊢
  have hkL : k ≤ L.length := by rw [hk]; have := lateN_le (times L) now; simpa [times] using this
  clear hk
  obtain ⟨a, c, rfl⟩ := own_slice h.own
  obtain ⟨-, hnc, hcm⟩ := own_len h.own
  obtain ⟨n, hn⟩ : ∃ n, n = L.length := ⟨_, rfl⟩
  have hc0 := h.blk.cell 0
  have hc2 := h.blk.cell 2
  simp at hc0 hc2
  rw [← hn] at hc0 hkL hnc
  have hn32 : n ≤ 32 := by rw [hn]; exact h.few
  have HN := Lib.hid hn
  clear hn
  have HL := Lib.hid hlate
  clear hlate
  unfold maxLen at hcm
  go_enter Try.func9, Try.ntmps9
  go_wp2_with (go_at_call 25; refine HL.out.mono ?_; rintro e w1 ⟨rfl, hw1⟩; obtain rfl := hw1.symm)
  go_loopw [5, 8, 27] (fun q _ i wr => ∃ j : Nat, j ≤ k ∧ i = .int .i64 j ∧ wr.ownsRow w.heap.size 22 1 q j (dueVals (L.take j)) ∧ (q = .slice none 0 0 ↔ j = 0) ∧ MapAt wr M .u16 (mdels ml (L.take j)) ∧ Mod (· = M) w wr)
    (fun _ _ i _ => k - (intOf i).toNat)
  case atStart => exact ⟨0, Nat.zero_le _, rfl, World.ownsRow_nil _ _ _ _, by simp, h.map, Mod.refl _ _⟩
  case round =>
    obtain ⟨j, hj, rfl, hout, hnil, hmap, hm⟩ := hrel
    by_cases hlt : j < k
    · obtain ⟨x, hxj⟩ : ∃ x, L[j]? = some x := ⟨L[j]'(by have := HN.out; omega), by simp⟩
      have hxm : x ∈ L := List.mem_of_getElem? hxj
      have htx := h.tcs x hxm
      obtain ⟨g, rfl, hcell⟩ : ∃ g, a = some ⟨g, 0, none⟩ ∧ ∀ i, i < 3 → w.cell? ⟨g, j * 3 + i, none⟩ = x.cells[i]? := by
        have hjl : j < L.length := by have := HN.out; omega
        rcases h.own.2 with ⟨_, h0⟩ | ⟨g, cap, cur, hv, _, hg, _⟩
        · omega
        · cases hv
          refine ⟨g, rfl, fun i hi => ?_⟩
          have hx : L[j]'hjl = x := by
            have := hxj; rw [List.getElem?_eq_getElem hjl] at this; exact Option.some.inj this
          rw [h.own.cellAt _ (by omega), flat_get L j i hjl hi, hx]
      have hgM : ¬ g = M := fun e => own_ne_map h.own h.map (by rw [← e]; rfl)
      have c0 := hm.cell (hcell 0 (by omega)) hgM
      have c1 := hm.cell (hcell 1 (by omega)) hgM
      have c2 := hm.cell (hcell 2 (by omega)) hgM
      have p1 := hm.cell (h.blk.cell 1) (fun e => h.map.ne_blk h.blk e.symm)
      obtain ⟨ax, cx, hxv⟩ := own_slice htx.1
      simp [It.cells, hxv] at c0 c1 c2 p1
      obtain ⟨nx, hnx⟩ : ∃ nx, nx = x.tc.length := ⟨_, rfl⟩
      rw [← hnx] at c2
      have HX := Lib.hid hxv
      have HXN := Lib.hid hnx
      clear hxv hnx hcell
      obtain ⟨xt, hxt⟩ : ∃ xt, xt = x.t := ⟨_, rfl⟩
      obtain ⟨xi, hxi⟩ : ∃ xi, xi = x.id := ⟨_, rfl⟩
      rw [← hxt] at c0
      rw [← hxi] at c1
      have HXI := Lib.hid hxi
      clear hxt hxi
      obtain ⟨W, hW⟩ : ∃ W, W = (wr.alloc (.cells #[Value.int .u32 xt, .int .u16 xi, .slice ax nx cx] 56)).alloc (.cells #[Value.slice ax nx cx] 22) := ⟨_, rfl⟩
      have hmW : Mod NoB wr W := by rw [hW]; exact ((Mod.refl _ _).alloc _).alloc _
      have hbW : Blk W (wr.heap.size + 1) 22 [Value.slice ax nx cx] := by rw [hW]; have := Blk.new (wr.alloc (.cells #[Value.int .u32 xt, .int .u16 xi, .slice ax nx cx] 56)) 22 [Value.slice ax nx cx]; simpa using this
      have hbox : W.cell? ⟨wr.heap.size, 1, none⟩ = some (.int .u16 xi) := by
        rw [hW]
        have := (Blk.new wr 56 [Value.int .u32 xt, .int .u16 xi, .slice ax nx cx]).alloc (.cells #[Value.slice ax nx cx] 22)
        exact this.cell 1
      obtain ⟨v', w3, hrun, hown3, hm3, hb3, hn3⟩ := append_own (P := Try.prog) Try.elem22 (hmW.own hout (fun _ _ h => h)) (m := 1) (by simp) (hbW.arr 0) (fun u hu => by simp at hu; subst hu; rfl) (by unfold maxLen; omega) (by omega) (by have := hm.size; have := hmW.size; omega)
      have hblk5 : ∀ k', u5.ownBlock = some k' → w.heap.size ≤ k' := fun k' hk' => (hout.lt k' hk').1
      have hp5 : ¬ u5.ownBlock = some p := fun e => by have := hblk5 p e; have := h.blk.lt; omega
      have hM5 : ¬ u5.ownBlock = some M := fun e => by have := hblk5 M e; have := h.map.lt; omega
      have p3 := hm3.cell (hmW.cell p1 (fun h => h)) hp5
      have x3 : w3.cell? ⟨wr.heap.size, 1, none⟩ = some (.int .u16 xi) := hm3.cell hbox (fun e => by have h2 := (hout.lt wr.heap.size e).2; omega)
      have hmap3' := (hmap.mod hmW (fun h => h)).mod hm3 hM5
      have hmap3 : MapAt w3.drew M .u16 (mdels ml (L.take j)) := hmap3'
      have hids := ids_dels j h.ids h.uniq
      have htake : L.take (j + 1) = L.take j ++ [x] := by rw [List.take_add_one, hxj]; rfl
      have hdrop : x ∈ L.drop j := List.mem_of_getElem? (i := 0) (by simpa using hxj)
      obtain ⟨w4, hdel, hmap4, hm4⟩ := run_delete_map (P := Try.prog) (ty := 0) Try.underlying59 Try.under29 hmap3 xi (by
        rw [hids.2, if_pos (List.any_eq_true.2 ⟨x, hdrop, by rw [HXI.out]; simp⟩)]; rfl)
      have HT := Lib.hid htake
      subst hW; clear htake
      go_wp2_with (at_builtin; refine wpList_of_run rfl (exec_builtin2 (b := .append) (fun _ _ _ _ => rfl) _ _ 31 31 rfl rfl rfl (hrun _ _)) ?_)
      go_region
      all_goals go_wp2_with fail
      go_roundw
      case rel =>
        refine ⟨j + 1, by omega, by go_num, ?_, ⟨fun e => absurd (hn3 e).2 (by omega), by omega⟩, ?_, ?_⟩
        · rw [HT.out, dueVals, List.map_append]
          have := hm4.own (w := w3.drew) hown3 (fun g' hg' e => by
            have h1 := h.map.lt
            rcases hb3 g' hg' with h2 | h2
            · have := hblk5 g' h2; omega
            · have := hm.size; simp at h2; omega)
          have hv1 : List.map It.v [x] = [.slice ax nx cx] := by rw [HXN.out, ← HX.out]; rfl
          rw [hv1]
          exact this
        · rw [HT.out, mdels_snoc, ← HXI.out]; exact hmap4
        · refine (hm.trans' (((Mod.refl (fun k' => u5.ownBlock = some k') wr).alloc _).alloc _ |>.trans' hm3 (fun k' _ hk' => hk')) (fun k' hk1 hk' => ?_)).trans' (T := (· = M)) (w1 := w3) ?_ (fun k' _ hk' => hk')
          · have := hblk5 k' hk'; omega
          · exact ⟨hm4.os, hm4.tape, hm4.output, hm4.size, hm4.block⟩
      case measure => simp [intOf]; omega
    · obtain rfl : j = k := by omega
      have p0 := hm.cell (h.blk.cell 0) (fun e => h.map.ne_blk h.blk e.symm)
      rw [← HN.out] at p0
      have hvM : ∀ g, (Value.slice a L.length c).ownBlock = some g → ¬ g = M := fun g hg e => own_ne_map h.own h.map (by rw [hg, e])
      have hownr := hm.own h.own hvM
      rw [← HN.out] at hownr
      go_wp2_with (go_at_call 26; refine (delete_any _ B n j a c (flat L) hownr hkL (by omega) h.ones).mono ?_; rintro e w2 ⟨rfl, hown2, hm2⟩; have q0 := hm2.cell p0 (fun e => own_ne_blk h.own h.blk (by decide) (by cases a <;> exact e)); have f0 := ((h.blk.mod hm (fun e => h.map.ne_blk h.blk e.symm)).mod hm2 (fun e => own_ne_blk h.own h.blk (by decide) (by cases a <;> exact e))).frozen 0)
      go_ret
      have hpM : ¬ p = M := fun e => h.map.ne_blk h.blk e.symm
      have hno : ∀ g, u5.ownBlock = some g → w.heap.size ≤ g := fun g hg => (hout.lt g hg).1
      have hvp : ¬ (Value.slice a n c).ownBlock = some p := fun e => own_ne_blk h.own h.blk (by decide) (by cases a <;> exact e)
      have hvM' : ¬ (Value.slice a n c).ownBlock = some M := fun e => own_ne_map h.own h.map (by cases a <;> exact e)
      have hvlt : ∀ g, (Value.slice a n c).ownBlock = some g → g < w.heap.size := fun g hg => own_lt h.own (by cases a <;> exact hg)
      have hset : Mod (· = p) w2 (w2.setCell ⟨p, 0, none⟩ (.slice a (n - j) c)) := (Mod.refl _ _).setCell _ (fun _ => rfl)
      have hb2 := ((h.blk.mod hm hpM).mod hm2 hvp).setCell 0 (.slice a (n - j) c)
      have hall : Mod (foot p (.slice a L.length c) M) w (w2.setCell ⟨p, 0, none⟩ (.slice a (n - j) c)) :=
        ((hm.mono (fun _ _ e => .inr (.inl e))).trans' hm2 (fun k' _ hk' => .inr (.inr (by cases a <;> exact hk')))).trans' hset (fun k' _ hk' => .inl hk')
      have htcs : ∀ x ∈ L, TcAt (w2.setCell ⟨p, 0, none⟩ (.slice a (n - j) c)) B x := fun x hx => (h.tcs x hx).mod hall (fun g hg => h.apart (h.tcs x hx) g hg)
      have hbw : B ≤ w.heap.size := by have := h.low.1; have := h.blk.lt; omega
      refine ⟨u5, .slice a (n - j) c, rfl, ?_, ?_, ⟨hb2, ?_, ?_, ids_dels j h.ids h.uniq, fun x hx => htcs x (List.mem_of_mem_drop hx), h.low, ?_, fun x hx => h.rng x (List.mem_of_mem_drop hx), ?_, ?_⟩, fun x hx => htcs x (List.mem_of_mem_take hx), hall, ?_⟩
      · have i1 := hm2.own hout (fun g hg e => by have := hno g hg; have := hvlt g e; omega)
        exact hset.own i1 (fun g hg e => by have := hno g hg; have := h.blk.lt; omega)
      · exact hnil
      · have i1 := hset.own hown2 (fun g hg e => hvp (by rw [← e, ← hg]; cases a <;> rfl))
        rw [List.length_drop, ← flat_drop, ← HN.out]
        exact i1
      · exact (hmap.mod hm2 hvM').mod hset (fun e => hpM e.symm)
      · rw [List.length_drop]; have := h.few; omega
      · unfold times; rw [List.map_drop]; exact h.srt.drop
      · rw [List.map_drop]; exact h.uniq.sublist (List.drop_sublist _ _)
      · intro g hg; left; rw [← hg]; cases a <;> rfl
end
end Go.Proofs.Ytelfhcojpigkoaa
