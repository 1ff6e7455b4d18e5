/- Contracts of package plan, the methods that the first law calls. -/
import Derived.Test.YtelfhcojpigkoaaPlan
import Derived.Deep.RegionHeld3
namespace Go.Proofs.Ytelfhcojpigkoaa
open Go Go.RowKit

set_option maxHeartbeats 400000 in
theorem new_walk (w : World) : Calls Try.prog 7 #[] w fun e w' => ∃ p M, e = .returned (.pointer (some ⟨p, 0, none⟩)) ∧ PlanAt w.heap.size w' p (.slice none 0 0) M [] [] false ∧ Mod NoB w w' := by
  have hmm := @run_makeMap Try.prog
  go_enter Try.func7, Try.ntmps7
  go_wp2
  go_ret
  have hmap := (MapAt.new w .u16).alloc (.cells [Value.slice none 0 0, .map (some w.heap.size), .bool false].toArray 61)
  have hblk := Blk.new (w.alloc (.map #[] 0)) 61 [Value.slice none 0 0, .map (some w.heap.size), .bool false]
  refine ⟨w.heap.size + 1, w.heap.size, rfl, ⟨?_, World.ownsRow_nil _ _ _ _, hmap, ⟨by simp, fun a => rfl⟩, by simp, by omega, by simp, by simp, by simp [times], by simp⟩, ?_⟩
  · simpa using hblk
  · exact ((Mod.refl _ w).alloc _).alloc _

section
variable {B : Nat} {w w' : World} {p : Nat} {v : Value} {M : Nat} {ml : List (Int × Value)} {L : List It} {off : Bool}
theorem len_walk (h : PlanAt B w p v M ml L off) : Calls Try.prog 10 #[.pointer (some ⟨p, 0, none⟩)] w fun e w' => e = .returned (.int .i64 L.length) ∧ w' = w := by
  obtain ⟨a, c, rfl⟩ := own_slice h.own
  have hc := h.blk.cell 0
  simp at hc
  clear h
  go_enter Try.func10, Try.ntmps10
  go_wp2
  go_ret
  exact ⟨rfl, rfl⟩
theorem len_nil (w : World) : Calls Try.prog 10 #[.pointer none] w fun e w' => e = .returned (.int .i64 0) ∧ w' = w := by
  go_enter Try.func10, Try.ntmps10
  go_wp2
  go_ret
  exact ⟨rfl, rfl⟩
theorem enabled_walk (h : PlanAt B w p v M ml L off) : Calls Try.prog 18 #[.pointer (some ⟨p, 0, none⟩)] w fun e w' => e = .returned (.bool (!off)) ∧ w' = w := by
  have hc := h.blk.cell 2
  simp at hc
  clear h
  go_enter Try.func18, Try.ntmps18
  go_wp2
  go_ret
  exact ⟨rfl, rfl⟩
theorem enabled_nil (w : World) : Calls Try.prog 18 #[.pointer none] w fun e w' => e = .returned (.bool false) ∧ w' = w := by
  go_enter Try.func18, Try.ntmps18
  go_wp2
  go_ret
  exact ⟨rfl, rfl⟩

set_option maxHeartbeats 1000000 in
theorem late_walk (h : PlanAt B w p v M ml L off) (now : Int) (hnow : 0 ≤ now ∧ now < 4294967296) : Calls Try.prog 25 #[.pointer (some ⟨p, 0, none⟩), .int .u32 now] w fun e w' => e = .returned (.int .i64 (lateN (times L) now)) ∧ w' = w := by
  obtain ⟨N, hN⟩ : ∃ N, N = lateN (times L) now := ⟨_, rfl⟩
  rw [← hN]
  obtain ⟨a, c, rfl⟩ := own_slice h.own
  have hc := h.blk.cell 0
  simp at hc
  obtain ⟨n, hn⟩ : ∃ n, n = L.length := ⟨_, rfl⟩
  have hNn : N ≤ n := by rw [hN, hn]; have := lateN_le (times L) now; simpa [times] using this
  have hfew : n ≤ 32 := by rw [hn]; exact h.few
  have hel : ∀ k, k < n → ∃ x g, a = some ⟨g, 0, none⟩ ∧ w.cell? ⟨g, k * 3, none⟩ = some (.int .u32 x) ∧ (k ≤ N → x ≤ now → k + 1 ≤ N) ∧ (k ≤ N → now < x → N = k) := by
    intro k hk
    obtain ⟨x, hxk⟩ : ∃ x, L[k]? = some x := ⟨L[k], by simp⟩
    have htk : (times L)[k]? = some x.t := by simp [times, hxk]
    rcases h.own.2 with ⟨_, h0⟩ | ⟨g, cap, cur, hv, _, hg, _⟩
    · omega
    · cases hv
      refine ⟨x.t, g, rfl, ?_, fun h1 h2 => ?_, fun h1 h2 => ?_⟩
      · have := flat_get L k 0 (by omega) (by omega)
        have hx : L[k]'(by omega) = x := by
          have := hxk; rw [List.getElem?_eq_getElem (by omega)] at this; exact Option.some.inj this
        rw [show k * 3 = k * 3 + 0 by omega, h.own.cellAt _ (by omega), this, hx]
        rfl
      · rw [hN] at h1 ⊢; exact lateN_go _ _ k x.t htk h1 h2
      · rw [hN] at h1 ⊢; exact lateN_stop _ _ k x.t htk h1 h2
  rw [← hn] at hc
  clear h hN hn
  go_enter Try.func25, Try.ntmps25
  go_wp2
  go_loop [5] (fun i => ∃ k : Nat, k ≤ N ∧ i = .int .i64 k) (fun i => n - (intOf i).toNat)
  case atStart => exact ⟨0, Nat.zero_le _, rfl⟩
  case round =>
    obtain ⟨k, hk, rfl⟩ := hrel
    by_cases hlt : k < n
    · obtain ⟨x, g, rfl, hck, h1, h2⟩ := hel k hlt
      clear hel
      by_cases hcmp : x ≤ now
      · have h3 := h1 hk hcmp
        clear h1 h2
        go_wp2
        go_round
        case rel => exact ⟨k + 1, h3, by go_num⟩
        case measure => simp [intOf]; omega
      · have HF := Lib.hid (h2 hk (by omega))
        clear h1 h2
        go_wp2
        go_ret
        exact ⟨by rw [HF.out]; rfl, rfl⟩
    · have HF := Lib.hid (show N = k by omega)
      clear hel
      go_wp2
      go_ret
      exact ⟨by rw [HF.out]; rfl, rfl⟩

/-- An item behind those that are no later. -/
def insAt (L : List It) (x : It) : List It := L.take (lateN (times L) x.t) ++ [x] ++ L.drop (lateN (times L) x.t)

theorem insert_long (h : PlanAt B w p v M ml L off) (t id : Int) (a : Option Addr) (n c : Nat) (hn : 208 < n) :
    Calls Try.prog 8 #[.pointer (some ⟨p, 0, none⟩), .int .u32 t, .int .u16 id, .slice a n c] w fun e w' => e = .returned (.int .i64 4) ∧ w' = w := by
  go_enter Try.func8, Try.ntmps8
  go_wp2
  go_ret
  exact ⟨rfl, rfl⟩

theorem insert_nil (w : World) (t id : Int) (x : Value) :
    Calls Try.prog 8 #[.pointer none, .int .u32 t, .int .u16 id, x] w fun e w' => e = .returned (.int .i64 3) ∧ w' = w := by
  go_enter Try.func8, Try.ntmps8
  go_wp2
  go_ret
  exact ⟨rfl, rfl⟩

theorem ids_lookup (h : PlanAt B w p v M ml L off) (id : Int) : (Instr.lookup 59 (.map (some M)) (.int .u16 id) false).run Try.prog w = .ok (.bool (L.any (fun x => x.id == id))) w := by
  rw [run_lookup_int Try.underlying59 Try.under29 Try.zero4 h.map id, h.ids.2 id]
  cases L.any (fun x => x.id == id) <;> rfl

theorem insert_there (h : PlanAt B w p v M ml L off) (t id : Int) (a : Option Addr) (n c : Nat) (hn : n ≤ 208) (hid : L.any (fun x => x.id == id) = true) :
    Calls Try.prog 8 #[.pointer (some ⟨p, 0, none⟩), .int .u32 t, .int .u16 id, .slice a n c] w fun e w' => e = .returned (.int .i64 8) ∧ w' = w := by
  have hc1 := h.blk.cell 1
  simp at hc1
  have hlk := ids_lookup h id
  rw [hid] at hlk
  clear h hid
  go_enter Try.func8, Try.ntmps8
  go_wp2
  go_ret
  exact ⟨rfl, rfl⟩

theorem insert_full (h : PlanAt B w p v M ml L off) (t id : Int) (a : Option Addr) (n c : Nat) (hn : n ≤ 208) (hid : L.any (fun x => x.id == id) = false) (hL : L.length = 32) :
    Calls Try.prog 8 #[.pointer (some ⟨p, 0, none⟩), .int .u32 t, .int .u16 id, .slice a n c] w fun e w' => e = .returned (.int .i64 6) ∧ w' = w := by
  have hc1 := h.blk.cell 1
  have hc0 := h.blk.cell 0
  obtain ⟨a', c', rfl⟩ := own_slice h.own
  simp at hc1 hc0
  have hlk := ids_lookup h id
  rw [hid] at hlk
  rw [hL] at hc0
  clear h hid hL
  go_enter Try.func8, Try.ntmps8
  go_wp2
  go_ret
  exact ⟨rfl, rfl⟩

theorem flat_ins (L : List It) (x : It) (N : Nat) : (flat L).take (N * 3) ++ [Value.int .u32 x.t, .int .u16 x.id, x.v] ++ (flat L).drop (N * 3) = flat (L.take N ++ [x] ++ L.drop N) := by
  rw [flat_append, flat_append, flat_take, flat_drop]
  simp [flat, It.cells]
theorem ids_new {ml : List (Int × Value)} {L L' : List It} {id : Int} (h : IdsOk ml L) (hn : L.any (fun x => x.id == id) = false) (hL : ∀ a, L'.any (fun x => x.id == a) = (L.any (fun x => x.id == a) || id == a)) : IdsOk (ml ++ [(id, .bool true)]) L' := by
  have h0 : mget ml id = none := by rw [h.2, hn]; rfl
  refine ⟨?_, fun a => ?_⟩
  · rw [List.map_append, List.nodup_append]
    refine ⟨h.1, by simp, fun a ha b hb hab => ?_⟩
    simp at hb
    subst hb hab
    obtain ⟨p, hp, hpa⟩ := List.mem_map.1 ha
    have := mget_none h0
    rw [List.any_eq_false] at this
    exact this p hp (by simp [hpa])
  · rw [mget_app_new h0, h.2, hL]
    by_cases hab : id = a <;> simp [hab]
theorem insAt_any (L : List It) (x : It) (a : Int) : (insAt L x).any (fun y => y.id == a) = (L.any (fun y => y.id == a) || x.id == a) := by
  unfold insAt
  conv => rhs; rw [← List.take_append_drop (lateN (times L) x.t) L]
  simp only [List.any_append, List.any_cons, List.any_nil]
  cases (L.take (lateN (times L) x.t)).any (fun y => y.id == a) <;> cases (L.drop (lateN (times L) x.t)).any (fun y => y.id == a) <;> simp
theorem insAt_mem {L : List It} {x y : It} (h : y ∈ insAt L x) : y ∈ L ∨ y = x := by
  unfold insAt at h
  simp only [List.mem_append, List.mem_singleton] at h
  rcases h with (h | h) | h
  · exact .inl (List.mem_of_mem_take h)
  · exact .inr h
  · exact .inl (List.mem_of_mem_drop h)
theorem insAt_length (L : List It) (x : It) : (insAt L x).length = L.length + 1 := by
  have := lateN_le (times L) x.t
  simp [times] at this
  simp [insAt]
  omega
theorem late_split (ts : List Int) (t : Int) (hs : ts.Pairwise (· ≤ ·)) : (∀ x ∈ ts.take (lateN ts t), x ≤ t) ∧ (∀ x ∈ ts.drop (lateN ts t), t < x) := by
  induction ts with
  | nil => simp
  | cons x l ih =>
    rw [List.pairwise_cons] at hs
    rw [lateN_cons]
    split
    · rename_i h
      have := ih hs.2
      refine ⟨fun y hy => ?_, fun y hy => this.2 y (by simpa using hy)⟩
      simp at hy
      rcases hy with rfl | hy
      · exact h
      · exact this.1 y hy
    · rename_i h
      refine ⟨by simp, fun y hy => ?_⟩
      simp at hy
      rcases hy with rfl | hy
      · omega
      · have := hs.1 y hy; omega
theorem insAt_sorted {L : List It} (x : It) (hs : (times L).Pairwise (· ≤ ·)) : (times (insAt L x)).Pairwise (· ≤ ·) := by
  have h := late_split (times L) x.t hs
  unfold insAt times at *
  simp only [List.map_append, List.map_take, List.map_drop, List.map_cons, List.map_nil]
  rw [List.append_assoc, List.pairwise_append]
  refine ⟨hs.take, ?_, ?_⟩
  · simp only [List.singleton_append, List.pairwise_cons]
    exact ⟨fun a ha => by have := h.2 a ha; omega, hs.drop⟩
  · intro a ha b hb
    simp only [List.singleton_append, List.mem_cons] at hb
    have := h.1 a ha
    rcases hb with rfl | hb
    · exact this
    · have := h.2 b hb; omega

theorem insAt_uniq {L : List It} {x : It} (h : (L.map It.id).Nodup) (hn : L.any (fun y => y.id == x.id) = false) : ((insAt L x).map It.id).Nodup := by
  have hx : x.id ∉ L.map It.id := by
    intro hm
    obtain ⟨y, hy, he⟩ := List.mem_map.1 hm
    rw [List.any_eq_false] at hn
    exact hn y hy (by simp [he])
  have h2 : (x.id :: L.map It.id).Nodup := List.nodup_cons.2 ⟨hx, h⟩
  refine List.Perm.nodup ?_ h2
  unfold insAt
  rw [List.map_append, List.map_append, List.map_cons, List.map_nil, List.append_assoc, List.singleton_append]
  refine List.Perm.trans ?_ List.perm_middle.symm
  rw [← List.map_append, List.take_append_drop]

set_option maxHeartbeats 2000000 in
theorem insert_ok (h : PlanAt B w p v M ml L off) (t id : Int) (tv : Value) (tcl : List Value) (hn : tcl.length ≤ 208) (hid : L.any (fun x => x.id == id) = false) (hL : L.length < 32) (ht : 0 ≤ t ∧ t < 4294967296)
    (htv : (tv = .slice none 0 0 ∧ tcl = []) ∨ ∃ a c, tv = .slice (some a) tcl.length c ∧ Arr w a tcl) (h1 : Ones tcl) :
    Calls Try.prog 8 #[.pointer (some ⟨p, 0, none⟩), .int .u32 t, .int .u16 id, tv] w fun e w' => e = .returned (.int .i64 0) ∧ ∃ v' tv', PlanAt B w' p v' M (ml ++ [(id, .bool true)]) (insAt L ⟨t, id, tv', tcl⟩) off ∧
      Mod (foot p v M) w w' ∧ (∀ g, v'.ownBlock = some g → v.ownBlock = some g ∨ w.heap.size ≤ g) := by
  have hc1 := h.blk.cell 1
  have hc0 := h.blk.cell 0
  obtain ⟨a', c', rfl⟩ := own_slice h.own
  simp at hc1 hc0
  have hlk := ids_lookup h id
  rw [hid] at hlk
  obtain ⟨n, hn'⟩ : ∃ n, n = L.length := ⟨_, rfl⟩
  have hn32 : ¬ n = 32 := by omega
  obtain ⟨a, c, m, rfl, hm⟩ : ∃ a c m, tv = .slice a m c ∧ m ≤ 208 := by
    rcases htv with ⟨rfl, _⟩ | ⟨a, c, rfl, _⟩
    · exact ⟨_, _, _, rfl, by omega⟩
    · exact ⟨_, _, _, rfl, hn⟩
  rw [← hn'] at hc0
  have HN := Lib.hid hn'
  clear hn'
  go_enter Try.func8, Try.ntmps8
  go_wp2_with fail
  refine (search_walk w B n a' c' L t (by rw [HN.out]; exact h.own) (by rw [HN.out]; have := h.few; omega) (by rw [HN.out]) h.srt ht (fun x hx => (h.rng x hx).1)).mono ?_
  rintro e w1 ⟨rfl, hm1⟩
  have h1p : PlanAt B w1 p (.slice a' n c') M ml L off := by rw [HN.out]; exact h.mod hm1 (fun _ _ h => h)
  obtain ⟨N, hN⟩ : ∃ N, N = lateN (times L) t := ⟨_, rfl⟩
  have hNL : N ≤ L.length := by rw [hN]; have := lateN_le (times L) t; simpa [times] using this
  rw [← hN]
  have HNN := Lib.hid hN
  clear hN
  have htv1 : (Value.slice a m c = .slice none 0 0 ∧ tcl = []) ∨ ∃ x y, Value.slice a m c = .slice (some x) tcl.length y ∧ Arr w1.drew x tcl := by
    rcases htv with hh | ⟨x, y, hx, hr⟩
    · exact .inl hh
    · exact .inr ⟨x, y, hx, hr.mod hm1.drew (fun h => h)⟩
  have e0 := h1p.blk.cell 0
  have f0 := h1p.blk.frozen 0
  simp at e0
  clear hc1 hc0 hlk
  go_wp2_with fail
  go_region_law
    (first
     | (go_simp; go_at_call 24; refine (clone_any _ _ tcl (by omega) h1 htv1).mono ?_; rintro e w2 ⟨a2, c2, rfl, ho2, hnil2, hm2⟩; have hk2 := hm2.cell (w := w1.drew) e0 (fun h => h); have hk2' : ∀ o, (w2.alloc o).cell? ⟨p, 0, none⟩ = some (.slice a' n c') := fun o => (hm2.alloc o).cell (w := w1.drew) e0 (fun h => h))
     | (go_simp; go_at_call 23
        have hm2' : Mod NoB w1.drew (w2.alloc (.cells #[Value.int IntKind.u32 t, Value.int IntKind.u16 id, Value.slice a2 tcl.length c2] 56)) := hm2.alloc _
        have hown2 := hm2'.own (w := w1.drew) h1p.own (fun _ _ h => h)
        have hlt2 : ∀ g, (Value.slice a' n c').ownBlock = some g → g ≠ w2.heap.size := fun g hg e => by
          have := own_lt h1p.own hg
          have := hm2.size
          simp at this
          omega
        refine (insert_any _ B w2.heap.size n N (.slice a' n c') (flat L) _ (by rw [HN.out]; rw [HN.out] at hown2; exact hown2) (by have := hm2'.size; have := h1p.blk.lt; have := h1p.low.1; simp at *; omega) (by rw [HN.out]; exact hNL) (by rw [HN.out]; have := h.few; omega) h1p.ones (Blk.new w2 56 _) (fun e => hlt2 _ e rfl) rfl (by intro u hu; simp at hu; rcases hu with rfl | rfl | rfl <;> rfl)).mono ?_
        rintro e w3 ⟨g3, c3, rfl, ho3, hm3, hb3⟩
        have hk3 := hm3.cell (hm2'.cell (w := w1.drew) e0 (fun h => h)) (own_ne_blk h1p.own h1p.blk (by decide))
        have hbk3 := (Blk.mod (w := w1.drew) h1p.blk hm2' (fun h => h)).mod hm3 (own_ne_blk h1p.own h1p.blk (by decide))
        have f3 := hbk3.frozen 0))
  all_goals
    have hb4 := hbk3.setCell 0 (Value.slice (some ⟨g3, 0, none⟩) (n + 1) c3)
    have hpM : M ≠ p := h1p.map.ne_blk h1p.blk
    have hmap3 : MapAt w3 M .u16 ml := (MapAt.mod (w := w1.drew) h1p.map hm2' (fun h => h)).mod hm3 (own_ne_map h1p.own h1p.map)
    have hmap4 := hmap3.setCell (a := ⟨p, 0, none⟩) hpM (Value.slice (some ⟨g3, 0, none⟩) (n + 1) c3)
    obtain ⟨w5, hrun5, hmap5, hm5⟩ := run_mapUpdate_new (P := Try.prog) Try.underlying59 Try.under29 hmap4 id (.bool true) (by rw [h.ids.2, hid]; rfl)
    have e31 := hbk3.cell 1
    simp at e31
    go_wp2_with fail
    go_ret
    have hset : Mod (· = p) w3 (w3.setCell ⟨p, 0, none⟩ (Value.slice (some ⟨g3, 0, none⟩) (n + 1) c3)) := (Mod.refl _ _).setCell _ (fun _ => rfl)
    have hnp3 : ∀ k, (Value.slice (some ⟨g3, 0, none⟩) (n + 1) c3).ownBlock = some k → ¬ k = p := fun k hk e => own_ne_blk ho3 hbk3 (by decide) (by rw [hk, e])
    have hown5 := hm5.own (hset.own ho3 hnp3) (fun k hk e => own_ne_map ho3 hmap3 (by rw [hk, e]))
    have hmw1 : Mod NoB w w1 := hm1
    have hBs : B ≤ w1.drew.heap.size := by have := h1p.blk.lt; have := h1p.low.1; simp; omega
    have hnew : TcAt w5 B ⟨t, id, .slice a2 tcl.length c2, tcl⟩ := by
      have ho2' := own_mono ho2 hBs
      have hc0 : Mod NoB w2 (w2.alloc (.cells #[Value.int IntKind.u32 t, Value.int IntKind.u16 id, Value.slice a2 tcl.length c2] 56)) := (Mod.refl _ _).alloc _
      have hown2o := hm2'.own (w := w1.drew) h1p.own (fun _ _ h => h)
      have i1 := hc0.own ho2' (fun _ _ h => h)
      have i2 := hm3.own i1 (fun k hk e => own_ne_own i1 hown2o (by decide) k hk e)
      have i3 := hset.own i2 (fun k hk e => own_ne_blk i2 hbk3 (by decide) (by rw [hk, e]))
      exact ⟨hm5.own i3 (fun k hk e => own_ne_map i2 hmap3 (by rw [hk, e])), h1, hn⟩
    have hall : Mod (foot p (.slice a' n c') M) w w5 :=
      ((((hm1.drew.trans hm2').mono (fun _ _ h => h.elim)).trans' hm3 (fun k _ hk => .inr (.inr hk))).trans' hset (fun k _ hk => .inl hk)).trans' hm5 (fun k _ hk => .inr (.inl hk))
    refine ⟨rfl, _, .slice a2 tcl.length c2, ⟨hb4.mod hm5 (fun e => hpM e.symm), ?_, hmap5, ids_new h.ids hid (insAt_any L _), ?_, h.low, ?_, ?_, insAt_sorted _ h.srt, insAt_uniq h.uniq hid⟩, ?_, ?_⟩
    · rw [insAt_length, insAt]
      have hfl := flat_ins L ⟨t, id, .slice a2 tcl.length c2, tcl⟩ N
      rw [HNN.out] at hfl
      simp only [] at hfl ⊢
      rw [← hfl]
      rw [HN.out, HNN.out] at hown5
      rw [HN.out]
      exact hown5
    · intro x hx
      rcases insAt_mem hx with hx | rfl
      · have := h1p.apart (h1p.tcs x hx)
        exact (h.tcs x hx).mod hall (fun g hg => this g hg)
      · exact hnew
    · rw [insAt_length]; omega
    · intro x hx
      rcases insAt_mem hx with hx | rfl
      · exact h.rng x hx
      · exact ht
    · rw [HN.out] at hall; exact hall
    · intro g hg
      rcases hb3 with hh | hh
      · left; rw [← hg]; rw [HN.out] at hh; exact hh
      · right
        simp [Value.ownBlock] at hg
        have s2 : w1.heap.size ≤ w2.heap.size := hm2.size
        have s1 := hm1.size
        simp at hh
        omega
end
end Go.Proofs.Ytelfhcojpigkoaa
