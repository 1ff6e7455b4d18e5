/- The law's own do, for a plan that there is; what a step is, on lists of items. -/
import Derived.Test.YtelfhcojpigkoaaRef5
namespace Go.Proofs.Ytelfhcojpigkoaa
open Go Go.RowKit

section
variable (w : World) (pv : Value) (d t id : Int) (a : Option Addr) (n c : Nat) (by_ : Int) (on : Bool)
def boxA : World := w.alloc (.cells #[Value.int .u8 d, .int .u32 t, .int .u16 id, .slice a n c, .int .i32 by_, .bool on] 41)
def IntPost (P : Int → World → Prop) (e : Ending) (w' : World) : Prop := ∃ r, e = .returned (.int .i64 r) ∧ P r w'
def DoPost (P : Int → World → Prop) (e : Ending) (w' : World) : Prop := ∃ r, e = .returned (.tuple #[.int .i64 r, .slice none 0 0]) ∧ P r w'
theorem do_delete (hd : 0 ≤ d ∧ d ≤ 255) (h8 : d % 8 = 3) (P : Int → World → Prop) (hc : Calls Try.prog 28 #[pv, .int .u16 id] (boxA w d t id a n c by_ on) (IntPost P)) :
    Calls Try.prog 13 #[pv, .agg #[.int .u8 d, .int .u32 t, .int .u16 id, .slice a n c, .int .i32 by_, .bool on]] w (DoPost P) := by
  unfold boxA at hc
  have HC := Lib.hid hc
  obtain ⟨d0, d1⟩ := hd
  clear hc
  go_enter Try.func13, Try.ntmps13
  go_wp2_with fail
  refine HC.out.mono ?_
  rintro e w1 ⟨r, rfl, hp⟩
  go_wp2_with fail
  go_ret2
  exact ⟨r, rfl, hp⟩
theorem do_insert (hd : 0 ≤ d ∧ d ≤ 255) (h8 : d % 8 = 0 ∨ d % 8 = 1 ∨ d % 8 = 2) (P : Int → World → Prop) (hc : Calls Try.prog 8 #[pv, .int .u32 t, .int .u16 id, .slice a n c] (boxA w d t id a n c by_ on) (IntPost P)) :
    Calls Try.prog 13 #[pv, .agg #[.int .u8 d, .int .u32 t, .int .u16 id, .slice a n c, .int .i32 by_, .bool on]] w (DoPost P) := by
  unfold boxA at hc
  have HC := Lib.hid hc
  obtain ⟨d0, d1⟩ := hd
  clear hc
  rcases h8 with h8 | h8 | h8
  all_goals
    go_enter Try.func13, Try.ntmps13
    go_wp2_with fail
    refine HC.out.mono ?_
    rintro e w1 ⟨r, rfl, hp⟩
    go_wp2_with fail
    go_ret2
    exact ⟨r, rfl, hp⟩
theorem do_shift (hd : 0 ≤ d ∧ d ≤ 255) (h8 : d % 8 = 5) (P : Int → World → Prop) (hc : Calls Try.prog 29 #[pv, .int .i32 by_] (boxA w d t id a n c by_ on) (IntPost P)) :
    Calls Try.prog 13 #[pv, .agg #[.int .u8 d, .int .u32 t, .int .u16 id, .slice a n c, .int .i32 by_, .bool on]] w (DoPost P) := by
  unfold boxA at hc
  have HC := Lib.hid hc
  obtain ⟨d0, d1⟩ := hd
  clear hc
  go_enter Try.func13, Try.ntmps13
  go_wp2_with fail
  refine HC.out.mono ?_
  rintro e w1 ⟨r, rfl, hp⟩
  go_wp2_with fail
  go_ret2
  exact ⟨r, rfl, hp⟩
theorem do_clear (hd : 0 ≤ d ∧ d ≤ 255) (h8 : d % 8 = 7) (P : Int → World → Prop) (hc : Calls Try.prog 31 #[pv] (boxA w d t id a n c by_ on) (IntPost P)) :
    Calls Try.prog 13 #[pv, .agg #[.int .u8 d, .int .u32 t, .int .u16 id, .slice a n c, .int .i32 by_, .bool on]] w (DoPost P) := by
  unfold boxA at hc
  have HC := Lib.hid hc
  obtain ⟨d0, d1⟩ := hd
  clear hc
  go_enter Try.func13, Try.ntmps13
  go_wp2_with fail
  refine HC.out.mono ?_
  rintro e w1 ⟨r, rfl, hp⟩
  go_wp2_with fail
  go_ret2
  exact ⟨r, rfl, hp⟩
theorem do_enable (hd : 0 ≤ d ∧ d ≤ 255) (h8 : d % 8 = 6) (P : Int → World → Prop) (hc : Calls Try.prog 30 #[pv, .bool on] (boxA w d t id a n c by_ on) fun e w' => e = .returned (.tuple #[]) ∧ P 0 w') :
    Calls Try.prog 13 #[pv, .agg #[.int .u8 d, .int .u32 t, .int .u16 id, .slice a n c, .int .i32 by_, .bool on]] w (DoPost P) := by
  unfold boxA at hc
  have HC := Lib.hid hc
  obtain ⟨d0, d1⟩ := hd
  clear hc
  go_enter Try.func13, Try.ntmps13
  go_wp2_with fail
  refine HC.out.mono ?_
  rintro e w1 ⟨rfl, hp⟩
  go_wp2_with fail
  go_ret2
  exact ⟨0, rfl, hp⟩
def SlPost (P : Value → World → Prop) (e : Ending) (w' : World) : Prop := ∃ (a : Option Addr) (n c : Nat), e = .returned (.slice a n c) ∧ P (.slice a n c) w'
def DuePost2 (P : Value → World → Prop) (e : Ending) (w' : World) : Prop := ∃ (a : Option Addr) (n c : Nat), e = .returned (.tuple #[.int .i64 0, .slice a n c]) ∧ P (.slice a n c) w'
theorem do_due (hd : 0 ≤ d ∧ d ≤ 255) (h8 : d % 8 = 4) (P : Value → World → Prop) (hc : Calls Try.prog 9 #[pv, .int .u32 t] (boxA w d t id a n c by_ on) (SlPost P)) :
    Calls Try.prog 13 #[pv, .agg #[.int .u8 d, .int .u32 t, .int .u16 id, .slice a n c, .int .i32 by_, .bool on]] w (DuePost2 P) := by
  unfold boxA at hc
  have HC := Lib.hid hc
  obtain ⟨d0, d1⟩ := hd
  clear hc
  go_enter Try.func13, Try.ntmps13
  go_wp2_with fail
  refine HC.out.mono ?_
  rintro e w1 ⟨a1, n1, c1, rfl, hp⟩
  go_wp2_with fail
  go_ret2
  exact ⟨a1, n1, c1, rfl, hp⟩
end

/-- An item without where its command lies. -/
def It.nrm (x : It) : It := ⟨x.t, x.id, .bool false, x.tc⟩
def nk (L : List It) : List It := L.map It.nrm
section
variable (L : List It)
theorem nk_times : times (nk L) = times L := by simp [times, nk, It.nrm, Function.comp_def]
theorem nk_length : (nk L).length = L.length := by simp [nk]
theorem nk_take (k : Nat) : nk (L.take k) = (nk L).take k := by simp [nk]
theorem nk_drop (k : Nat) : nk (L.drop k) = (nk L).drop k := by simp [nk]
theorem nk_insAt (x : It) : nk (insAt L x) = insAt (nk L) x.nrm := by
  unfold insAt
  rw [nk_times]
  simp [nk, It.nrm]
theorem nk_filter (q : It → Bool) (hq : ∀ x, q x.nrm = q x) : nk (L.filter q) = (nk L).filter q := by
  unfold nk
  rw [List.filter_map]
  congr 1
  refine List.filter_congr fun x _ => ?_
  simp [hq]
theorem nk_sh (b : Int) : nk (L.map (sh b)) = (nk L).map (sh b) := by simp [nk, sh, It.nrm]
theorem nk_any (id : Int) : (nk L).any (fun x => x.id == id) = L.any (fun x => x.id == id) := by simp [nk, It.nrm, Function.comp_def]
theorem early_take (t : Int) (hs : (times L).Pairwise (· ≤ ·)) : L.filter (early t) = L.take (lateN (times L) t) ∧ L.filter (fun y => !(early t y)) = L.drop (lateN (times L) t) := by
  induction L with
  | nil => simp
  | cons x L ih =>
    simp only [times, List.map_cons] at *
    rw [List.pairwise_cons] at hs
    rw [lateN_cons]
    have := ih hs.2
    by_cases h : x.t ≤ t
    · rw [if_pos h]
      simp only [List.filter_cons, early, h, decide_true, if_true, List.take_succ_cons, List.drop_succ_cons, Bool.not_true, Bool.false_eq_true, if_false] at *
      exact ⟨by rw [this.1], this.2⟩
    · rw [if_neg h]
      have hall : ∀ y ∈ L, ¬ y.t ≤ t := fun y hy => by have := hs.1 y.t (List.mem_map.2 ⟨y, hy, rfl⟩); omega
      refine ⟨?_, ?_⟩
      · rw [List.take_zero, List.filter_eq_nil_iff]
        intro y hy
        rcases List.mem_cons.1 hy with rfl | hy
        · simpa [early] using h
        · simpa [early] using hall y hy
      · rw [List.drop_zero, List.filter_eq_self]
        intro y hy
        rcases List.mem_cons.1 hy with rfl | hy
        · simpa [early] using h
        · simpa [early] using hall y hy
end

/-- What a step answers, which items are due, what is left, is it off. -/
def stepS (K : List It) (off : Bool) (d t id : Int) (tc : List Value) (by_ : Int) (on : Bool) : Int × List It × List It × Bool :=
  if d % 8 = 3 then (if K.any (fun x => x.id == id) then (0, [], others K id, off) else (3, [], K, off))
  else if d % 8 = 4 then (if off then (0, [], K, off) else (0, K.filter (early t), K.filter (fun y => !(early t y)), off))
  else if d % 8 = 5 then ((K.length : Int), [], K.map (sh by_), off)
  else if d % 8 = 6 then (0, [], K, !on)
  else if d % 8 = 7 then ((K.length : Int), [], [], off)
  else if 208 < tc.length then (4, [], K, off)
  else if K.any (fun x => x.id == id) then (8, [], K, off)
  else if K.length = 32 then (6, [], K, off)
  else (0, [], insAt K ⟨t, id, .bool false, tc⟩, off)

/-- What a step of the plan leaves. -/
def PStep (B : Nat) (w : World) (p : Nat) (v : Value) (M : Nat) (S : Int × List It × List It × Bool) (e : Ending) (w' : World) : Prop :=
  ∃ (oa : Option Addr) (oc : Nat) (outL : List It) (v' : Value) (ml' : List (Int × Value)) (L' : List It), e = .returned (.tuple #[.int .i64 S.1, .slice oa outL.length oc]) ∧ w'.ownsRow w.heap.size 22 1 (.slice oa outL.length oc) outL.length (dueVals outL) ∧ nk outL = S.2.1 ∧
    (∀ x ∈ outL, TcAt w' B x) ∧ PlanAt B w' p v' M ml' L' S.2.2.2 ∧ nk L' = S.2.2.1 ∧ Mod (foot p v M) w w' ∧ (∀ g, v'.ownBlock = some g → v.ownBlock = some g ∨ w.heap.size ≤ g)
/-- What a step of the document's plan leaves. -/
def RStep (B : Nat) (w : World) (x : Nat) (v : Value) (S : Int × List It × List It × Bool) (e : Ending) (w' : World) : Prop :=
  ∃ (oa : Option Addr) (oc : Nat) (outL : List It) (v' : Value) (R' : List It), e = .returned (.tuple #[.int .i64 S.1, .slice oa outL.length oc]) ∧ w'.ownsRow w.heap.size 22 1 (.slice oa outL.length oc) outL.length (dueVals outL) ∧ nk outL = S.2.1 ∧
    (∀ x ∈ outL, TcAt w' B x) ∧ RefAt B w' x v' R' S.2.2.2 ∧ nk R' = S.2.2.1 ∧ Mod (rfoot x v) w w' ∧ (∀ g, v'.ownBlock = some g → v.ownBlock = some g ∨ w.heap.size ≤ g)

theorem nil_out (w : World) : w.ownsRow w.heap.size 22 1 (.slice none 0 0) ([] : List It).length (dueVals []) := World.ownsRow_nil _ _ _ _
theorem d8_cases (d : Int) : (d % 8 = 0 ∨ d % 8 = 1 ∨ d % 8 = 2) ∨ d % 8 = 3 ∨ d % 8 = 4 ∨ d % 8 = 5 ∨ d % 8 = 6 ∨ d % 8 = 7 := by omega
theorem stepS_ins {K : List It} {off : Bool} {d t id : Int} {tc : List Value} {by_ : Int} {on : Bool} (h : d % 8 = 0 ∨ d % 8 = 1 ∨ d % 8 = 2) : stepS K off d t id tc by_ on =
    (if 208 < tc.length then (4, [], K, off) else if K.any (fun x => x.id == id) then (8, [], K, off) else if K.length = 32 then (6, [], K, off) else (0, [], insAt K ⟨t, id, .bool false, tc⟩, off)) := by
  unfold stepS
  rw [if_neg (by omega), if_neg (by omega), if_neg (by omega), if_neg (by omega), if_neg (by omega)]

section
variable {B : Nat} {w : World} {p : Nat} {v : Value} {M : Nat} {ml : List (Int × Value)} {L : List It} {off : Bool}
theorem box_mod (w : World) (d t id : Int) (a : Option Addr) (n c : Nat) (by_ : Int) (on : Bool) : Mod NoB w (boxA w d t id a n c by_ on) := (Mod.refl _ w).alloc _
theorem boxA_size (w : World) (d t id : Int) (a : Option Addr) (n c : Nat) (by_ : Int) (on : Bool) : (boxA w d t id a n c by_ on).heap.size = w.heap.size + 1 := by simp [boxA]
/-- a step that only tells a number, the plan being as it was or changed in its own blocks -/
theorem pstep_of {r : Int} {S : Int × List It × List It × Bool} {W w' : World} (hW : Mod NoB w W) (hr : r = S.1) (hS : S.2.1 = []) {v' : Value} {ml' : List (Int × Value)} {L' : List It} (hP : PlanAt B w' p v' M ml' L' S.2.2.2) (hL : nk L' = S.2.2.1) (hm : Mod (foot p v M) W w')
    (hv : ∀ g, v'.ownBlock = some g → v.ownBlock = some g ∨ W.heap.size ≤ g) : PStep B w p v M S (.returned (.tuple #[.int .i64 r, .slice none 0 0])) w' := by
  subst hr
  exact ⟨none, 0, [], v', ml', L', rfl, World.ownsRow_nil _ _ _ _, by rw [hS]; rfl, by simp, hP, hL, (hW.mono (fun _ _ h => h.elim)).trans hm, fun g hg => (hv g hg).imp_right (fun h => Nat.le_trans hW.size h)⟩

theorem plan_step (h : PlanAt B w p v M ml L off) (d t id : Int) (a : Option Addr) (n c : Nat) (by_ : Int) (on : Bool) (hd : 0 ≤ d ∧ d ≤ 255) (ht : 0 ≤ t ∧ t < 4294967296) (hby : -2147483648 ≤ by_ ∧ by_ < 2147483648) (tcl : List Value) (hn : tcl.length = n)
    (htv : (Value.slice a n c = .slice none 0 0 ∧ tcl = []) ∨ ∃ x y, Value.slice a n c = .slice (some x) tcl.length y ∧ Arr w x tcl) (h1 : Ones tcl) :
    Calls Try.prog 13 #[.pointer (some ⟨p, 0, none⟩), .agg #[.int .u8 d, .int .u32 t, .int .u16 id, .slice a n c, .int .i32 by_, .bool on]] w (PStep B w p v M (stepS (nk L) off d t id tcl by_ on)) := by
  have hb := box_mod w d t id a n c by_ on
  have hP := h.mod hb (fun _ _ h => h)
  have hnv : ∀ W : World, ∀ g, v.ownBlock = some g → v.ownBlock = some g ∨ W.heap.size ≤ g := fun W g hg => .inl hg
  have hsrt := h.srt
  have hlo : ∀ {w' : World}, Mod NoB (boxA w d t id a n c by_ on) w' → Mod (foot p v M) (boxA w d t id a n c by_ on) w' := fun h => h.mono (fun _ _ h => h.elim)
  rcases d8_cases d with h8 | h8 | h8 | h8 | h8 | h8
  · rw [stepS_ins h8, nk_any, nk_length]
    by_cases h208 : 208 < tcl.length
    · rw [if_pos h208]
      refine (do_insert w _ d t id a n c by_ on hd h8 (fun r w' => r = 4 ∧ w' = boxA w d t id a n c by_ on) ((insert_long hP t id a n c (by omega)).mono ?_)).mono ?_
      · rintro e w' ⟨rfl, rfl⟩; exact ⟨4, rfl, rfl, rfl⟩
      · rintro e w' ⟨r, rfl, rfl, rfl⟩
        exact pstep_of hb rfl rfl hP rfl (Mod.refl _ _) (hnv _)
    · rw [if_neg h208]
      cases hid : L.any (fun x => x.id == id) with
      | true =>
        rw [if_pos rfl]
        refine (do_insert w _ d t id a n c by_ on hd h8 (fun r w' => r = 8 ∧ w' = boxA w d t id a n c by_ on) ((insert_there hP t id a n c (by omega) hid).mono ?_)).mono ?_
        · rintro e w' ⟨rfl, rfl⟩; exact ⟨8, rfl, rfl, rfl⟩
        · rintro e w' ⟨r, rfl, rfl, rfl⟩
          exact pstep_of hb rfl rfl hP rfl (Mod.refl _ _) (hnv _)
      | false =>
        rw [if_neg (by simp)]
        by_cases h32 : L.length = 32
        · rw [if_pos h32]
          refine (do_insert w _ d t id a n c by_ on hd h8 (fun r w' => r = 6 ∧ w' = boxA w d t id a n c by_ on) ((insert_full hP t id a n c (by omega) hid h32).mono ?_)).mono ?_
          · rintro e w' ⟨rfl, rfl⟩; exact ⟨6, rfl, rfl, rfl⟩
          · rintro e w' ⟨r, rfl, rfl, rfl⟩
            exact pstep_of hb rfl rfl hP rfl (Mod.refl _ _) (hnv _)
        · rw [if_neg h32]
          refine (do_insert w _ d t id a n c by_ on hd h8 (fun r w' => r = 0 ∧ ∃ v' tv', PlanAt B w' p v' M (ml ++ [(id, .bool true)]) (insAt L ⟨t, id, tv', tcl⟩) off ∧ Mod (foot p v M) (boxA w d t id a n c by_ on) w' ∧ (∀ g, v'.ownBlock = some g → v.ownBlock = some g ∨ (boxA w d t id a n c by_ on).heap.size ≤ g))
            ((insert_ok hP t id (.slice a n c) tcl (by omega) hid (by have := h.few; omega) ht (htv.imp_right (fun ⟨x, y, e, ha⟩ => ⟨x, y, e, ha.mod hb (fun h => h)⟩)) h1).mono ?_)).mono ?_
          · rintro e w' ⟨rfl, v', tv', hp⟩; exact ⟨0, rfl, rfl, v', tv', hp⟩
          · rintro e w' ⟨r, rfl, rfl, v', tv', hp, hm, hv⟩
            exact pstep_of hb rfl rfl hp (by rw [nk_insAt]; rfl) hm hv
  · have hS : stepS (nk L) off d t id tcl by_ on = if L.any (fun x => x.id == id) then (0, [], others (nk L) id, off) else (3, [], nk L, off) := by unfold stepS; rw [if_pos h8, nk_any]
    rw [hS]
    cases hid : L.any (fun x => x.id == id) with
    | true =>
      rw [if_pos rfl]
      refine (do_delete w _ d t id a n c by_ on hd h8 (fun r w' => r = 0 ∧ ∃ v', PlanAt B w' p v' M (mdel ml id) (others L id) off ∧ Mod (foot p v M) (boxA w d t id a n c by_ on) w' ∧ (∀ g, v'.ownBlock = some g → v.ownBlock = some g ∨ (boxA w d t id a n c by_ on).heap.size ≤ g)) ((delete_ok hP id hid).mono ?_)).mono ?_
      · rintro e w' ⟨rfl, v', hp⟩; exact ⟨0, rfl, rfl, v', hp⟩
      · rintro e w' ⟨r, rfl, rfl, v', hp, hm, hv⟩
        exact pstep_of hb rfl rfl hp (by unfold others; rw [nk_filter]; intro x; rfl) hm hv
    | false =>
      rw [if_neg (by simp)]
      refine (do_delete w _ d t id a n c by_ on hd h8 (fun r w' => r = 3 ∧ Mod NoB (boxA w d t id a n c by_ on) w') ((delete_none hP id hid).mono ?_)).mono ?_
      · rintro e w' ⟨rfl, hm⟩; exact ⟨3, rfl, rfl, hm⟩
      · rintro e w' ⟨r, rfl, rfl, hm⟩
        exact pstep_of hb rfl rfl (hP.mod hm (fun _ _ h => h)) rfl (hlo hm) (hnv _)
  · have hS : stepS (nk L) off d t id tcl by_ on = if off then (0, [], nk L, off) else (0, (nk L).filter (early t), (nk L).filter (fun y => !(early t y)), off) := by unfold stepS; rw [if_neg (by omega), if_pos h8]
    rw [hS]
    cases off with
    | true =>
      rw [if_pos rfl]
      refine (do_due w _ d t id a n c by_ on hd h8 (fun o w' => o = .slice none 0 0 ∧ w' = boxA w d t id a n c by_ on) ((due_off hP t).mono ?_)).mono ?_
      · rintro e w' ⟨rfl, rfl⟩; exact ⟨_, _, _, rfl, rfl, rfl⟩
      · rintro e w' ⟨a', n', c', rfl, he, rfl⟩
        cases he
        exact pstep_of hb rfl rfl hP rfl (Mod.refl _ _) (hnv _)
    | false =>
      rw [if_neg (by simp)]
      have hE := early_take L t hsrt
      have hq : ∀ x : It, early t x.nrm = early t x := fun x => rfl
      refine (do_due w _ d t id a n c by_ on hd h8 (fun o w' => DuePost B (boxA w d t id a n c by_ on) p v M ml L (lateN (times L) t) (.returned o) w') ((due_on hP t ht).mono ?_)).mono ?_
      · rintro e w' ⟨out, v', rfl, r⟩
        obtain ⟨a', c', rfl⟩ := own_slice r.1
        exact ⟨a', _, c', rfl, _, v', rfl, r⟩
      · rintro e w' ⟨a', n', c', rfl, out, v', he, ho, hz, hp, htc, hm, hv⟩
        cases he
        have hle : (L.take (lateN (times L) t)).length = lateN (times L) t := by
          have := lateN_le (times L) t
          simp [times] at this ⊢
          omega
        obtain ⟨rfl, -⟩ := own_len ho
        refine ⟨a', c', L.take (lateN (times L) t), v', _, L.drop (lateN (times L) t), by rw [hle], by rw [hle]; exact own_mono ho hb.size, ?_, htc, hp, ?_, (hb.mono (fun _ _ h => h.elim)).trans hm, fun g hg => (hv g hg).imp_right (fun h => Nat.le_trans hb.size h)⟩
        · rw [← hE.1]; exact nk_filter L _ hq
        · rw [← hE.2]; exact nk_filter L _ (fun x => by rw [hq])
  · have hS : stepS (nk L) off d t id tcl by_ on = ((L.length : Int), [], (nk L).map (sh by_), off) := by unfold stepS; rw [if_neg (by omega), if_neg (by omega), if_pos h8, nk_length]
    rw [hS]
    refine (do_shift w _ d t id a n c by_ on hd h8 (fun r w' => r = (L.length : Int) ∧ PlanAt B w' p v M ml (L.map (sh by_)) off ∧ Mod (foot p v M) (boxA w d t id a n c by_ on) w') ((shift_walk hP by_ hby).mono ?_)).mono ?_
    · rintro e w' ⟨rfl, hp⟩; exact ⟨_, rfl, rfl, hp⟩
    · rintro e w' ⟨r, rfl, rfl, hp, hm⟩
      exact pstep_of hb rfl rfl hp (nk_sh _ _) hm (hnv _)
  · have hS : stepS (nk L) off d t id tcl by_ on = (0, [], nk L, !on) := by unfold stepS; rw [if_neg (by omega), if_neg (by omega), if_neg (by omega), if_pos h8]
    rw [hS]
    refine (do_enable w _ d t id a n c by_ on hd h8 (fun r w' => r = 0 ∧ PlanAt B w' p v M ml L (!on) ∧ Mod (foot p v M) (boxA w d t id a n c by_ on) w') ((enable_walk hP on).mono ?_)).mono ?_
    · rintro e w' ⟨rfl, hp⟩; exact ⟨rfl, rfl, hp⟩
    · rintro e w' ⟨r, rfl, rfl, hp, hm⟩
      exact pstep_of hb rfl rfl hp rfl hm (hnv _)
  · have hS : stepS (nk L) off d t id tcl by_ on = ((L.length : Int), [], [], off) := by unfold stepS; rw [if_neg (by omega), if_neg (by omega), if_neg (by omega), if_neg (by omega), if_pos h8, nk_length]
    rw [hS]
    refine (do_clear w _ d t id a n c by_ on hd h8 (fun r w' => r = (L.length : Int) ∧ (∃ v' ml', PlanAt B w' p v' M ml' [] off ∧ (∀ g, v'.ownBlock = some g → v.ownBlock = some g)) ∧ Mod (foot p v M) (boxA w d t id a n c by_ on) w') ((clear_walk hP).mono ?_)).mono ?_
    · rintro e w' ⟨rfl, hp⟩; exact ⟨_, rfl, rfl, hp⟩
    · rintro e w' ⟨r, rfl, rfl, ⟨v', ml', hp, hv⟩, hm⟩
      exact pstep_of hb rfl rfl hp rfl hm (fun g hg => .inl (hv g hg))
end

section
variable {B : Nat} {w : World} {x : Nat} {v : Value} {R : List It} {off : Bool}
theorem rstep_of {r : Int} {S : Int × List It × List It × Bool} {w' : World} (hr : r = S.1) (hS : S.2.1 = []) {v' : Value} {R' : List It} (hP : RefAt B w' x v' R' S.2.2.2) (hL : nk R' = S.2.2.1) (hm : Mod (rfoot x v) w w')
    (hv : ∀ g, v'.ownBlock = some g → v.ownBlock = some g ∨ w.heap.size ≤ g) : RStep B w x v S (.returned (.tuple #[.int .i64 r, .slice none 0 0])) w' := by
  subst hr
  exact ⟨none, 0, [], v', R', rfl, World.ownsRow_nil _ _ _ _, by rw [hS]; rfl, by simp, hP, hL, hm, hv⟩

theorem ref_step (h : RefAt B w x v R off) (d t id : Int) (a : Option Addr) (n c : Nat) (by_ : Int) (on : Bool) (hd : 0 ≤ d ∧ d ≤ 255) (ht : 0 ≤ t ∧ t < 4294967296) (hby : -2147483648 ≤ by_ ∧ by_ < 2147483648) (tcl : List Value) (hn : tcl.length = n)
    (htc : w.ownsRow B 5 1 (.slice a n c) n tcl) (h1 : Ones tcl) (hsrt : (times R).Pairwise (· ≤ ·)) (huniq : (R.map It.id).Nodup) (hrng : ∀ y ∈ R, 0 ≤ y.t ∧ y.t < 4294967296) :
    Calls Try.prog 12 #[.pointer (some ⟨x, 0, none⟩), .agg #[.int .u8 d, .int .u32 t, .int .u16 id, .slice a n c, .int .i32 by_, .bool on]] w (RStep B w x v (stepS (nk R) off d t id tcl by_ on)) := by
  have hnv : ∀ g, v.ownBlock = some g → v.ownBlock = some g ∨ w.heap.size ≤ g := fun g hg => .inl hg
  have hlo : ∀ {w' : World}, Mod NoB w w' → Mod (rfoot x v) w w' := fun h => h.mono (fun _ _ h => h.elim)
  rcases d8_cases d with h8 | h8 | h8 | h8 | h8 | h8
  · rw [stepS_ins h8, nk_any, nk_length]
    by_cases h208 : 208 < tcl.length
    · rw [if_pos h208]
      refine (ref_insert_long h d t id a n c by_ on hd h8 (by omega)).mono ?_
      rintro e w' ⟨rfl, hm⟩
      exact rstep_of rfl rfl (h.nob hm) rfl (hlo hm) hnv
    · rw [if_neg h208]
      cases hid : R.any (fun x => x.id == id) with
      | true =>
        rw [if_pos rfl]
        refine (ref_insert_there h d t id a n c by_ on hd h8 (by omega) hid).mono ?_
        rintro e w' ⟨rfl, hm⟩
        exact rstep_of rfl rfl (h.nob hm) rfl (hlo hm) hnv
      | false =>
        rw [if_neg (by simp)]
        by_cases h32 : R.length = 32
        · rw [if_pos h32]
          refine (ref_insert_full h d t id a n c by_ on hd h8 (by omega) h32 hid).mono ?_
          rintro e w' ⟨rfl, hm⟩
          exact rstep_of rfl rfl (h.nob hm) rfl (hlo hm) hnv
        · rw [if_neg h32]
          refine (ref_insert_ok h d t id a n c by_ on hd h8 (by omega) h32 hid hsrt tcl ⟨by rw [hn]; exact htc, h1, by show tcl.length ≤ 208; omega⟩).mono ?_
          rintro e w' ⟨rfl, ⟨v', hp, hv⟩, hm⟩
          exact rstep_of rfl rfl hp (by rw [nk_insAt]; rfl) hm (fun g hg => .inr (hv g hg))
  · have hS : stepS (nk R) off d t id tcl by_ on = if R.any (fun x => x.id == id) then (0, [], others (nk R) id, off) else (3, [], nk R, off) := by unfold stepS; rw [if_pos h8, nk_any]
    rw [hS]
    cases hid : R.any (fun x => x.id == id) with
    | true =>
      rw [if_pos rfl]
      refine (ref_delete_ok h d t id a n c by_ on hd h8 hid huniq).mono ?_
      rintro e w' ⟨rfl, ⟨v', hp, hv⟩, hm⟩
      exact rstep_of rfl rfl hp (by unfold others; rw [nk_filter]; intro x; rfl) hm (fun g hg => .inr (hv g hg))
    | false =>
      rw [if_neg (by simp)]
      refine (ref_delete_none h d t id a n c by_ on hd h8 hid).mono ?_
      rintro e w' ⟨rfl, hm⟩
      exact rstep_of rfl rfl (h.nob hm) rfl (hlo hm) hnv
  · have hS : stepS (nk R) off d t id tcl by_ on = if off then (0, [], nk R, off) else (0, (nk R).filter (early t), (nk R).filter (fun y => !(early t y)), off) := by unfold stepS; rw [if_neg (by omega), if_pos h8]
    rw [hS]
    cases off with
    | true =>
      rw [if_pos rfl]
      refine (ref_due_off h d t id a n c by_ on hd h8 rfl).mono ?_
      rintro e w' ⟨rfl, hm⟩
      exact rstep_of rfl rfl (h.nob hm) rfl (hlo hm) hnv
    | false =>
      rw [if_neg (by simp)]
      have hq : ∀ x : It, early t x.nrm = early t x := fun x => rfl
      refine (ref_due_on h d t id a n c by_ on hd h8 rfl).mono ?_
      rintro e w' ⟨out, v', rfl, ho, hp, htc, hm, hv⟩
      obtain ⟨a', c', rfl⟩ := own_slice ho
      exact ⟨a', c', R.filter (early t), v', _, rfl, ho, nk_filter R _ hq, fun y hy => htc y (List.mem_filter.1 hy).1, hp, nk_filter R _ (fun x => by rw [hq]), hm, fun g hg => .inr (hv g hg)⟩
  · have hS : stepS (nk R) off d t id tcl by_ on = ((R.length : Int), [], (nk R).map (sh by_), off) := by unfold stepS; rw [if_neg (by omega), if_neg (by omega), if_pos h8, nk_length]
    rw [hS]
    refine (ref_shift h d t id a n c by_ on hd h8 (by omega) hrng).mono ?_
    rintro e w' ⟨rfl, hp, hm⟩
    exact rstep_of rfl rfl hp (nk_sh _ _) hm hnv
  · have hS : stepS (nk R) off d t id tcl by_ on = (0, [], nk R, !on) := by unfold stepS; rw [if_neg (by omega), if_neg (by omega), if_neg (by omega), if_pos h8]
    rw [hS]
    refine (ref_enable h d t id a n c by_ on hd h8).mono ?_
    rintro e w' ⟨rfl, hp, hm⟩
    exact rstep_of rfl rfl hp rfl hm hnv
  · have hS : stepS (nk R) off d t id tcl by_ on = ((R.length : Int), [], [], off) := by unfold stepS; rw [if_neg (by omega), if_neg (by omega), if_neg (by omega), if_neg (by omega), if_pos h8, nk_length]
    rw [hS]
    refine (ref_clear h d t id a n c by_ on hd h8).mono ?_
    rintro e w' ⟨rfl, hp, hm⟩
    exact rstep_of rfl rfl hp rfl hm (fun g hg => by cases hg)
end
end Go.Proofs.Ytelfhcojpigkoaa
