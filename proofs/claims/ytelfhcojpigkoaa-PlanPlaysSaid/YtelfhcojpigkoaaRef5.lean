/- The reference's plan: Do, an insertion. Printed by wip/gen/refdo.py. -/
import Derived.Test.YtelfhcojpigkoaaRef4
import Derived.Test.YtelfhcojpigkoaaRegG
namespace Go.Proofs.Ytelfhcojpigkoaa
open Go Go.RowKit
section
variable {B : Nat} {w w' : World} {x : Nat} {v : Value} {R : List It} {off : Bool}

theorem step_append {P : Program} {ops : Array Oper} {o : Oper} {a : Act} {w w' : World} {v vs vx : Value} {K : Act → World → Prop} {Q : Exit → Act → World → Prop} {E : Prop} {s x : Operand} {t tn : TypeId}
    (run : ∀ ty, (Builtin.append_ #[t, tn] ty #[vs, vx]).run P w = .ok v w') (hgd : o.guard = none) (ho : o.op = .call { callee := .builtin .append, args := #[s, x], argTypes := #[t, tn] }) (hs : a.eval s = vs) (hx : a.eval x = vx) (hK : K (a.put o.dst v) w') :
    if Region.wanted o (yielded ops a.tmps) = true then Oper.wp P o a w K Q else E := step_of_run hgd (exec_builtin2 (b := .append) (fun _ _ _ _ => rfl) s x t tn ho hs hx (run _)) hK
/-- What the insertion's loads read: the plan's list till it has been read, the act's fields. -/
def SIns (x q : Nat) (V U1 U2 U3 : Value) (l : Array Bool) (w' : World) : Prop := (l.getD 6 true = true ∨ w'.cell? ⟨x, 0, none⟩ = some V) ∧ w'.cell? ⟨q, 1, none⟩ = some U1 ∧ w'.cell? ⟨q, 2, none⟩ = some U2 ∧ w'.cell? ⟨q, 3, none⟩ = some U3
theorem SIns.ind {x q : Nat} {V U1 U2 U3 : Value} {l : Array Bool} {w' : World} {i : Nat} (h : i ≠ 6) : SIns x q V U1 U2 U3 (l.setIfInBounds i true) w' ↔ SIns x q V U1 U2 U3 l w' := by
  unfold SIns
  rw [getD_set_ne true h]
def InsDone (B : Nat) (w w4 : World) (x : Nat) (a : Option Addr) (n0 c : Nat) (g' c' m : Nat) (R' : List It) (off : Bool) : Prop :=
  (∃ v', RefAt B (w4.setCell ⟨x, 0, none⟩ (.slice (some ⟨g', 0, none⟩) m c')) x v' R' off ∧ (∀ g, v'.ownBlock = some g → w.heap.size ≤ g)) ∧ Mod (rfoot x (.slice a n0 c)) w (w4.setCell ⟨x, 0, none⟩ (.slice (some ⟨g', 0, none⟩) m c'))
theorem app_list {B n c : Nat} {a : Option Addr} {w W : World} {R : List It} (hown : w.ownsRow B 53 3 (.slice a n c) n (flat R)) (hn : n = R.length) (hn32 : n ≤ 32) (hones : Ones (flat R)) (hm : Mod NoB w W) (ge : Nat) (hge : w.heap.size ≤ ge) (ho : W.ownsRow w.heap.size 53 3 (.slice (some ⟨ge, 0, none⟩) 0 0) 0 []) :
    ∃ a1 c1 W2, (∀ ty, (Builtin.append_ #[37, 37] ty #[.slice (some ⟨ge, 0, none⟩) 0 0, .slice a n c]).run Try.prog W = .ok (.slice a1 n c1) W2) ∧ W2.ownsRow w.heap.size 53 3 (.slice a1 n c1) n (flat R) ∧ Mod NoB w W2 ∧ Mod (fun k => k = ge) W W2 := by
  obtain ⟨i0, hi0, -, hi1, -⟩ := info_parts Try.info53
  rcases hown.2 with ⟨e, e0⟩ | ⟨g, cap, cur, e, _⟩
  · cases e
    have hR : R = [] := List.eq_nil_of_length_eq_zero hn.symm
    subst hR
    exact ⟨_, _, W, fun ty => run_append_owned_none (P := Try.prog) (w := W) w.heap.size 37 ty 53 i0 3 Try.underlying37 hi0 _ 0 [] ho, ho, hm, Mod.refl _ _⟩
  · cases e
    obtain ⟨l, hlb, hll, hlt, -, -, -⟩ := own_blk hown
    have har : Arr W ⟨g, 0, none⟩ (flat R) := by
      have := (hlb.mod hm (fun h => h)).arr_take 0 (n * 3)
      rwa [List.drop_zero, hlt] at this
    obtain ⟨v1, W2, hrun1, hown1, hmA, -, -⟩ := append_own (P := Try.prog) Try.elem53 ho (m := n) (by rw [flat_length, ← hn]) har hones (by unfold maxLen; omega) (by omega) hm.size
    rw [Nat.zero_add, List.nil_append] at hown1
    obtain ⟨a1, c1, rfl⟩ := own_slice hown1
    have hmA' : Mod (fun k => k = ge) W W2 := hmA.mono (fun k _ e => by simp [Value.ownBlock] at e; exact e.symm)
    exact ⟨a1, c1, W2, fun ty => hrun1 ty c, hown1, hm.trans' hmA' (fun k hk e => by omega), hmA'⟩
theorem app_item {n : Nat} {a1 : Option Addr} {c1 : Nat} {w W : World} {R : List It} (hown : W.ownsRow w.heap.size 53 3 (.slice a1 n c1) n (flat R)) (hn32 : n ≤ 32) (hm : Mod NoB w W) (gi : Nat) (t id : Int) (ta : Option Addr) (tn tk : Nat) (tcl : List Value) (hb : Blk W gi 53 [.int .u32 t, .int .u16 id, .slice ta tn tk]) :
    ∃ a2 c2 W3, (∀ ty, (Builtin.append_ #[37, 37] ty #[.slice a1 n c1, .slice (some ⟨gi, 0, none⟩) 1 1]).run Try.prog W = .ok (.slice a2 (n + 1) c2) W3) ∧ W3.ownsRow w.heap.size 53 3 (.slice a2 (n + 1) c2) (n + 1) (flat (R ++ [⟨t, id, .slice ta tn tk, tcl⟩])) ∧ Mod NoB w W3 := by
  obtain ⟨v2, W3, hrun2, hown2, hmB, -, -⟩ := append_own (P := Try.prog) Try.elem53 hown (m := 1) (by simp) (hb.arr 0) (fun u hu => by simp at hu; rcases hu with rfl | rfl | rfl <;> rfl) (by unfold maxLen; omega) (by omega) hm.size
  obtain ⟨a2, c2, rfl⟩ := own_slice hown2
  have hfl : flat R ++ [Value.int .u32 t, .int .u16 id, .slice ta tn tk] = flat (R ++ [⟨t, id, .slice ta tn tk, tcl⟩]) := by rw [flat_append]; rfl
  rw [List.drop_zero, hfl] at hown2
  exact ⟨a2, c2, W3, fun ty => hrun2 ty 1, hown2, hm.trans' hmB (fun k hk e => by have := (hown.lt k e).1; omega)⟩

set_option maxHeartbeats 4000000 in
set_option maxRecDepth 20000 in
theorem ref_insert_ok (h : RefAt B w x v R off) (d t id : Int) (ta : Option Addr) (tn tk : Nat) (by_ : Int) (on : Bool) (hd : 0 ≤ d ∧ d ≤ 255) (hdi : d % 8 = 0 ∨ d % 8 = 1 ∨ d % 8 = 2) (hl : tn ≤ 208) (hroom : ¬ R.length = 32) (hno : R.any (fun y => y.id == id) = false) (hsrt : (times R).Pairwise (· ≤ ·)) (tcl : List Value) (htc : TcAt w B ⟨t, id, .slice ta tn tk, tcl⟩) :
    Calls Try.prog 12 #[.pointer (some ⟨x, 0, none⟩), .agg #[.int .u8 d, .int .u32 t, .int .u16 id, .slice ta tn tk, .int .i32 by_, .bool on]] w fun e w' => e = .returned (.tuple #[.int .i64 0, .slice none 0 0]) ∧ (∃ v', RefAt B w' x v' (insAt R ⟨t, id, .slice ta tn tk, tcl⟩) off ∧ (∀ g, v'.ownBlock = some g → w.heap.size ≤ g)) ∧ Mod (rfoot x v) w w' := by
  obtain ⟨a, c, rfl⟩ := own_slice h.own
  obtain ⟨n, hn⟩ : ∃ n, n = R.length := ⟨_, rfl⟩
  obtain ⟨W0, hW0⟩ : ∃ W0, W0 = w.alloc (.cells [Value.int .u8 d, .int .u32 t, .int .u16 id, .slice ta tn tk, .int .i32 by_, .bool on].toArray 41) := ⟨_, rfl⟩
  have hm0 : Mod NoB w W0 := by rw [hW0]; exact (Mod.refl _ _).alloc _
  have hbb : Blk W0 w.heap.size 41 [.int .u8 d, .int .u32 t, .int .u16 id, .slice ta tn tk, .int .i32 by_, .bool on] := by rw [hW0]; exact Blk.new w 41 _
  have h0 := h.nob hm0
  have e0 := h0.blk.cell 0
  simp at e0
  rw [← hn] at e0
  have ho := h0.own
  rw [← hn] at ho
  have hn32 : n ≤ 32 := by rw [hn]; exact h.few
  have HN := Lib.hid hn
  have HW0 := Lib.hid hW0
  clear hn hW0
  go_enter Try.func12, Try.ntmps12
  have e0' : (w.alloc (.cells #[Value.int .u8 d, .int .u32 t, .int .u16 id, .slice ta tn tk, .int .i32 by_, .bool on] 41)).cell? ⟨x, 0, none⟩ = some (.slice a n c) := by rw [HW0.out] at e0; exact e0
  go_wp2_with fail
  rw [show w.alloc (.cells #[Value.int .u8 d, .int .u32 t, .int .u16 id, .slice ta tn tk, .int .i32 by_, .bool on] 41) = W0 from HW0.out.symm]
  clear e0'
  go_loopw [6, 22] (fun z i wr => ∃ (k : Nat) (zz : Int), k ≤ n ∧ i = .int .i64 k ∧ z = .int .i64 zz ∧ AtOk R id k zz ∧ Mod NoB W0 wr) (fun _ i _ => n - (intOf i).toNat)
  case atStart => exact ⟨0, -1, Nat.zero_le _, rfl, rfl, .inl ⟨rfl, fun j y hj => by omega⟩, Mod.refl _ _⟩
  case round =>
    obtain ⟨k, zz, hk, rfl, rfl, hat, hm⟩ := hrel
    have HAT := Lib.hid hat
    clear hat
    by_cases hlt : k < n
    · have hk1 : k < R.length := by rw [← HN.out]; exact hlt
      obtain ⟨y, hy⟩ : ∃ y, R[k]? = some y := ⟨_, List.getElem?_eq_getElem hk1⟩
      obtain ⟨g, rfl, y0, y1, y2⟩ := own_item ho HN.out.symm hy
      obtain ⟨ay, ny, cy, hyv⟩ := h.slices y (List.mem_of_getElem? hy)
      have y0 := hm.cell y0 (fun h => h)
      have y1 := hm.cell y1 (fun h => h)
      have y2 := hm.cell y2 (fun h => h)
      have b2 := (hbb.mod hm (fun h => h)).cell 2
      simp at b2
      rw [hyv] at y2
      obtain ⟨yt, hyt⟩ : ∃ yt, yt = y.t := ⟨_, rfl⟩
      obtain ⟨yi, hyi⟩ : ∃ yi, yi = y.id := ⟨_, rfl⟩
      rw [← hyt] at y0
      rw [← hyi] at y1
      have b2' := ((Mod.refl NoB wr).alloc (.cells #[Value.int .u32 yt, .int .u16 yi, .slice ay ny cy] 53)).cell b2 (fun h => h)
      obtain ⟨D, hD⟩ : ∃ D, D = (yi == id) := ⟨_, rfl⟩
      have HY := Lib.hid hy
      have HD := Lib.hid hD
      have HYI := Lib.hid hyi
      clear hy hyv hyt hyi hD
      cases D with
      | true =>
        have hdd : (yi == id) = true := HD.out.symm
        go_wp2_with fail
        go_roundw
        case rel => exact ⟨k + 1, (k : Int), by omega, by go_num, rfl, .inr ⟨k, y, rfl, by omega, HY.out, by rw [← HYI.out]; exact HD.out.symm⟩, hm.alloc _⟩
        case measure => simp [intOf]; omega
      | false =>
        have hdd : (yi == id) = false := HD.out.symm
        go_wp2_with fail
        go_roundw
        case rel =>
          refine ⟨k + 1, zz, by omega, by go_num, rfl, ?_, hm.alloc _⟩
          rcases HAT.out with ⟨e, hall⟩ | ⟨j, y', e, hj, hy', hid⟩
          · refine .inl ⟨e, fun j y' hj hy' => ?_⟩
            by_cases h : j < k
            · exact hall j y' h hy'
            · obtain rfl : j = k := by omega
              rw [HY.out] at hy'
              cases hy'
              rw [← HYI.out]; exact HD.out.symm
          · exact .inr ⟨j, y', e, by omega, hy', hid⟩
        case measure => simp [intOf]; omega
    · obtain rfl : n = k := by omega
      have h1 := h0.nob hm
      have h01 := hm0.trans hm
      have hbw := hbb.mod hm (fun h => h)
      have p0 := h1.blk.cell 0
      have p1 := h1.blk.cell 1
      have f0 := h1.blk.frozen 0
      have f1 := h1.blk.frozen 1
      have b0 := hbw.cell 0
      have b1 := hbw.cell 1
      have b2 := hbw.cell 2
      have b3 := hbw.cell 3
      have b4 := hbw.cell 4
      have b5 := hbw.cell 5
      simp at p0 p1 b0 b1 b2 b3 b4 b5
      rw [← HN.out] at p0
      obtain ⟨d0, d1⟩ := hd
      have hown := h1.own
      rw [← HN.out] at hown
      have hvx : ¬ (Value.slice a n c).ownBlock = some x := own_ne_blk hown h1.blk (by decide)
      clear hlt hk e0 ho
      have h3 : ¬ d % 8 = 3 := by omega
      have h4 : ¬ d % 8 = 4 := by omega
      have h5 : ¬ d % 8 = 5 := by omega
      have h6 : ¬ d % 8 = 6 := by omega
      have h7 : ¬ d % 8 = 7 := by omega
      have hzz : zz = -1 := by
        rcases HAT.out with ⟨e, -⟩ | ⟨j, y, -, -, hy, hid⟩
        · exact e
        · have := List.any_eq_false.1 hno y (List.mem_of_getElem? hy)
          exact absurd hid (by simpa using this)
      subst hzz
      have hl' : ¬ 208 < tn := by omega
      have hf : ¬ n = 32 := by rw [HN.out]; exact hroom
      obtain ⟨-, hnc, hcm⟩ := own_len hown
      unfold maxLen at hcm
      have hones : Ones (flat R) := h.ones
      have hE : ∀ W : World, wr.heap.size ≤ W.heap.size → (W.alloc (.cells #[] 53)).ownsRow wr.heap.size 53 3 (.slice (some ⟨W.heap.size, 0, none⟩) 0 0) 0 [] := fun W hW => World.ownsRow_made W #[] 0 hW (by unfold maxLen; omega) rfl
      obtain ⟨E, hEe⟩ : ∃ E : Obj, E = .cells #[] 53 := ⟨_, rfl⟩
      obtain ⟨S, hSe⟩ : ∃ S : Obj, S = .cells #[Value.int .u32 t, .int .u16 id, .slice ta tn tk] 53 := ⟨_, rfl⟩
      rw [← hEe] at hE
      have hS : ∀ W : World, Blk (W.alloc S) W.heap.size 53 [Value.int .u32 t, .int .u16 id, .slice ta tn tk] := fun W => by rw [hSe]; exact Blk.new W 53 _
      -- E A1 S A2
      have m1 : Mod NoB wr (wr.alloc E).drew := ((Mod.refl _ wr).alloc _).drew
      obtain ⟨a1, c1, W2, run1, own1, m2, -⟩ := app_list hown HN.out (by omega) hones m1 wr.heap.size (Nat.le_refl _) (hE wr (Nat.le_refl _))
      have m22 : Mod NoB wr (W2.alloc S) := m2.alloc _
      obtain ⟨a2, c2, W3, run2, own2, m3⟩ := app_item (((Mod.refl NoB W2).alloc S).own own1 (fun _ _ h => h)) (by omega) m22 W2.heap.size t id ta tn tk tcl (hS W2)
      -- E S A1 A2
      have m1b : Mod NoB wr ((wr.alloc E).alloc S).drew := (((Mod.refl _ wr).alloc _).alloc _).drew
      have oEb : ((wr.alloc E).alloc S).drew.ownsRow wr.heap.size 53 3 (.slice (some ⟨wr.heap.size, 0, none⟩) 0 0) 0 [] := ((Mod.refl NoB (wr.alloc E)).alloc S).drew.own (hE wr (Nat.le_refl _)) (fun _ _ h => h)
      obtain ⟨a1b, c1b, W2b, run1b, own1b, m2b, mb⟩ := app_list hown HN.out (by omega) hones m1b wr.heap.size (Nat.le_refl _) oEb
      have bSb0 : Blk ((wr.alloc E).alloc S) (wr.heap.size + 1) 53 [Value.int .u32 t, .int .u16 id, .slice ta tn tk] := by have := hS (wr.alloc E); simpa using this
      have bSb := (Blk.drew bSb0).mod mb (by omega)
      obtain ⟨a2b, c2b, W3b, run2b, own2b, m3b⟩ := app_item own1b (by omega) m2b (wr.heap.size + 1) t id ta tn tk tcl bSb
      -- S E A1 A2
      have m1c : Mod NoB wr ((wr.alloc S).alloc E).drew := (((Mod.refl _ wr).alloc _).alloc _).drew
      have oEc : ((wr.alloc S).alloc E).drew.ownsRow wr.heap.size 53 3 (.slice (some ⟨wr.heap.size + 1, 0, none⟩) 0 0) 0 [] := by have := (hE (wr.alloc S) (by simp)); rw [show (wr.alloc S).heap.size = wr.heap.size + 1 from by simp] at this; exact this
      obtain ⟨a1c, c1c, W2c, run1c, own1c, m2c, mc⟩ := app_list hown HN.out (by omega) hones m1c (wr.heap.size + 1) (by omega) oEc
      have bSc0 : Blk ((wr.alloc S).alloc E).drew wr.heap.size 53 [Value.int .u32 t, .int .u16 id, .slice ta tn tk] := (hS wr).alloc E
      have bSc := bSc0.mod mc (by omega)
      obtain ⟨a2c, c2c, W3c, run2c, own2c, m3c⟩ := app_item own1c (by omega) m2c wr.heap.size t id ta tn tk tcl bSc
      obtain ⟨y, hy⟩ : ∃ y : It, y = ⟨t, id, .slice ta tn tk, tcl⟩ := ⟨_, rfl⟩
      rw [← hy] at own2 own2b own2c
      have htcw := htc.mod h01 (fun _ _ h => h)
      rw [← hy] at htcw
      have hfin : ∀ (W : World) (a' : Option Addr) (c' : Nat), W.ownsRow wr.heap.size 53 3 (.slice a' (n + 1) c') (n + 1) (flat (R ++ [y])) → Mod NoB wr W → Calls Try.prog 27 #[.slice a' (n + 1) c'] W fun e w4 => ∃ g' c'', e = .returned (.slice (some ⟨g', 0, none⟩) (n + 1) c'') ∧ w4.frozen? ⟨x, 0, none⟩ = false ∧ w4.cell? ⟨x, 0, none⟩ = some (.slice a n c) ∧ Mod NoB wr w4 ∧ InsDone B w w4 x a R.length c g' c'' (n + 1) (insAt R y) off := fun W a' c' hoW hmW => by
        refine (sorted_walk W wr.heap.size n a' c' R y hoW HN.out.symm (by omega) hsrt (fun z hz => ?_)).mono ?_
        · rcases List.mem_append.1 hz with hz | hz
          · exact h.slices z hz
          · rw [List.mem_singleton] at hz; rw [hz, hy]; exact ⟨_, _, _, rfl⟩
        · rintro e w4 ⟨g', c'', rfl, ho4, hm4⟩
          have hm14 := hmW.trans hm4
          have h4 := h1.nob hm14
          refine ⟨g', c'', rfl, h4.blk.frozen 0, hm14.cell p0 (fun h => h), hm14, ?_⟩
          have hset : Mod (· = x) w4 (w4.setCell ⟨x, 0, none⟩ (.slice (some ⟨g', 0, none⟩) (n + 1) c'')) := (Mod.refl _ _).setCell _ (fun _ => rfl)
          have hb := h4.blk.setCell 0 (.slice (some ⟨g', 0, none⟩) (n + 1) c'')
          have hsz := h01.size
          have hszW := hmW.size
          have hBw : B ≤ w.heap.size := by have := h.low; have := h.blk.lt; omega
          have hxw := h.blk.lt
          have hlen : (insAt R y).length = n + 1 := by rw [insAt_length, ← HN.out]
          have hty : TcAt w4 B y := htcw.mod hm14 (fun _ _ h => h)
          refine ⟨⟨_, ⟨hb, ?_, fun z hz => ?_, h.low, by rw [hlen]; omega⟩, fun g hg => by have := (ho4.lt g hg).1; omega⟩, ((h01.trans hm14).mono (fun _ _ h => h.elim)).trans' hset (fun k _ e => .inl e)⟩
          · rw [hlen]
            exact own_mono (hset.own ho4 (fun g hg e => by have := (ho4.lt g hg).1; omega)) (by omega)
          · rcases insAt_mem hz with hz | rfl
            · exact (h4.tcs z hz).mod hset (fun g hg e => h4.apart (h4.tcs z hz) g hg (.inl e))
            · exact hty.mod hset (fun g hg e => h4.apart hty g hg (.inl e))
      have HFIN := Lib.hid hfin
      have HY := Lib.hid hy
      have q1 := And.intro (m1.cell p0 (fun h => h)) (And.intro (m1.cell b1 (fun h => h)) (And.intro (m1.cell b2 (fun h => h)) (m1.cell b3 (fun h => h))))
      have q2 := And.intro (m2.cell p0 (fun h => h)) (And.intro (m2.cell b1 (fun h => h)) (And.intro (m2.cell b2 (fun h => h)) (m2.cell b3 (fun h => h))))
      have q1b := And.intro (m1b.cell p0 (fun h => h)) (And.intro (m1b.cell b1 (fun h => h)) (And.intro (m1b.cell b2 (fun h => h)) (m1b.cell b3 (fun h => h))))
      have q1c := And.intro (m1c.cell p0 (fun h => h)) (And.intro (m1c.cell b1 (fun h => h)) (And.intro (m1c.cell b2 (fun h => h)) (m1c.cell b3 (fun h => h))))
      obtain ⟨q10, q11, q12, q13⟩ := q1
      obtain ⟨q20, q21, q22, q23⟩ := q2
      obtain ⟨r10, r11, r12, r13⟩ := q1b
      obtain ⟨s10, s11, s12, s13⟩ := q1c
      clear hfin hy hE hS
      subst hEe
      subst hSe
      go_wp2_with fail
      have hxw : ¬ w.heap.size = x := by have := h.blk.lt; omega
      have hst : ∀ w4 : World, Mod NoB wr w4 → ∀ u, (w4.setCell ⟨x, 0, none⟩ u).cell? ⟨w.heap.size, 1, none⟩ = some (.int .u32 t) ∧ (w4.setCell ⟨x, 0, none⟩ u).cell? ⟨w.heap.size, 2, none⟩ = some (.int .u16 id) ∧ (w4.setCell ⟨x, 0, none⟩ u).cell? ⟨w.heap.size, 3, none⟩ = some (.slice ta tn tk) := fun w4 h4 u => by
        have hs : Mod (· = x) w4 (w4.setCell ⟨x, 0, none⟩ u) := (Mod.refl _ _).setCell _ (fun _ => rfl)
        exact ⟨hs.cell (h4.cell b1 (fun h => h)) hxw, hs.cell (h4.cell b2 (fun h => h)) hxw, hs.cell (h4.cell b3 (fun h => h)) hxw⟩
      have HST := Lib.hid hst
      clear hst
      have m1s : Mod NoB wr (wr.alloc (.cells #[Value.int .u32 t, .int .u16 id, .slice ta tn tk] 53)).drew := ((Mod.refl _ wr).alloc _).drew
      have t10 := m1s.cell p0 (fun h => h)
      refine wp_region_noPanic ?_
      have mD : Mod NoB wr wr.drew := (Mod.refl _ wr).drew
      refine wp_region_G (SIns x w.heap.size (.slice a n c) (.int .u32 t) (.int .u16 id) (.slice ta tn tk)) (by kernel_rfl) ?_
      have hS : SIns x w.heap.size (.slice a n c) (.int .u32 t) (.int .u16 id) (.slice ta tn tk) (Array.replicate 20 false) wr.drew := ⟨.inr (mD.cell p0 (fun h => h)), mD.cell b1 (fun h => h), mD.cell b2 (fun h => h), mD.cell b3 (fun h => h)⟩
      refine wpAnyG_take' (i := 0) (oi := ⟨_, _, _, _, _, _⟩) (v := ?_) (fun _ => True) rfl (by kernel_rfl) (by kernel_rfl) (by kernel_rfl) (by kernel_rfl) (fun _ _ _ h => h) (fun _ _ => SIns.ind (by decide)) (fun _ _ _ _ _ => trivial) (Or.inl ⟨by rfl, ?_⟩) hS (fun hS => ?_)
      rotate_left 1
      · intro w hSw; (try dsimp only at hSw); go_simp
        with_reducible rfl
      try simp only [Act.put, List.setIfInBounds_toArray, List.set_cons_zero, List.set_cons_succ]
      refine wpAnyG_take' (i := 2) (oi := ⟨_, _, _, _, _, _⟩) (v := ?_) (fun _ => True) rfl (by kernel_rfl) (by kernel_rfl) (by kernel_rfl) (by kernel_rfl) (fun _ _ _ h => h) (fun _ _ => SIns.ind (by decide)) (fun _ _ _ _ _ => trivial) (Or.inl ⟨by rfl, ?_⟩) hS (fun hS => ?_)
      rotate_left 1
      · intro w hSw; (try dsimp only at hSw); go_simp
        with_reducible rfl
      try simp only [Act.put, List.setIfInBounds_toArray, List.set_cons_zero, List.set_cons_succ]
      refine wpAnyG_take' (i := 3) (oi := ⟨_, _, _, _, _, _⟩) (v := ?_) (fun _ => True) rfl (by kernel_rfl) (by kernel_rfl) (by kernel_rfl) (by kernel_rfl) (fun _ _ _ h => h) (fun _ _ => SIns.ind (by decide)) (fun _ _ _ _ _ => trivial) (Or.inl ⟨by rfl, ?_⟩) hS (fun hS => ?_)
      rotate_left 1
      · intro w hSw; (try dsimp only at hSw); go_simp
        with_reducible rfl
      try simp only [Act.put, List.setIfInBounds_toArray, List.set_cons_zero, List.set_cons_succ]
      refine wpAnyG_take' (i := 4) (oi := ⟨_, _, _, _, _, _⟩) (v := ?_) (fun _ => True) rfl (by kernel_rfl) (by kernel_rfl) (by kernel_rfl) (by kernel_rfl) (fun _ _ _ h => h) (fun _ _ => SIns.ind (by decide)) (fun _ _ _ _ _ => trivial) (Or.inl ⟨by rfl, ?_⟩) hS (fun hS => ?_)
      rotate_left 1
      · intro w hSw; (try dsimp only at hSw); go_simp
        with_reducible rfl
      try simp only [Act.put, List.setIfInBounds_toArray, List.set_cons_zero, List.set_cons_succ]
      refine wpAnyG_take' (i := 5) (oi := ⟨_, _, _, _, _, _⟩) (v := ?_) (fun w' => w'.cell? ⟨x, 0, none⟩ = some (.slice a n c)) rfl (by kernel_rfl) (by kernel_rfl) (by kernel_rfl) (by kernel_rfl) (fun _ _ _ h => h) (fun _ _ => SIns.ind (by decide)) (fun l w' _ haw h => h.1.resolve_left (by rw [haw.at_ (k := 6) (by kernel_rfl)]; simp)) (Or.inl ⟨by rfl, ?_⟩) hS (fun hS => ?_)
      rotate_left 1
      · intro w hSw; (try dsimp only at hSw); go_simp
        with_reducible rfl
      try simp only [Act.put, List.setIfInBounds_toArray, List.set_cons_zero, List.set_cons_succ]
      refine wpAnyG_take' (i := 7) (oi := ⟨_, _, _, _, _, _⟩) (v := ?_) (fun _ => True) rfl (by kernel_rfl) (by kernel_rfl) (by kernel_rfl) (by kernel_rfl) (fun _ _ _ h => h) (fun _ _ => SIns.ind (by decide)) (fun _ _ _ _ _ => trivial) (Or.inl ⟨by rfl, ?_⟩) hS (fun hS => ?_)
      rotate_left 1
      · intro w hSw; (try dsimp only at hSw); go_simp
        with_reducible rfl
      try simp only [Act.put, List.setIfInBounds_toArray, List.set_cons_zero, List.set_cons_succ]
      refine wpAnyG_take' (i := 8) (oi := ⟨_, _, _, _, _, _⟩) (v := ?_) (fun w' => w'.cell? ⟨w.heap.size, 1, none⟩ = some (.int .u32 t)) rfl (by kernel_rfl) (by kernel_rfl) (by kernel_rfl) (by kernel_rfl) (fun _ _ _ h => h) (fun _ _ => SIns.ind (by decide)) (fun _ _ _ _ h => h.2.1) (Or.inl ⟨by rfl, ?_⟩) hS (fun hS => ?_)
      rotate_left 1
      · intro w hSw; (try dsimp only at hSw); go_simp
        with_reducible rfl
      try simp only [Act.put, List.setIfInBounds_toArray, List.set_cons_zero, List.set_cons_succ]
      refine wpAnyG_take' (i := 9) (oi := ⟨_, _, _, _, _, _⟩) (v := ?_) (fun _ => True) rfl (by kernel_rfl) (by kernel_rfl) (by kernel_rfl) (by kernel_rfl) (fun _ _ _ h => h) (fun _ _ => SIns.ind (by decide)) (fun _ _ _ _ _ => trivial) (Or.inl ⟨by rfl, ?_⟩) hS (fun hS => ?_)
      rotate_left 1
      · intro w hSw; (try dsimp only at hSw); go_simp
        with_reducible rfl
      try simp only [Act.put, List.setIfInBounds_toArray, List.set_cons_zero, List.set_cons_succ]
      refine wpAnyG_take' (i := 10) (oi := ⟨_, _, _, _, _, _⟩) (v := ?_) (fun w' => w'.cell? ⟨w.heap.size, 2, none⟩ = some (.int .u16 id)) rfl (by kernel_rfl) (by kernel_rfl) (by kernel_rfl) (by kernel_rfl) (fun _ _ _ h => h) (fun _ _ => SIns.ind (by decide)) (fun _ _ _ _ h => h.2.2.1) (Or.inl ⟨by rfl, ?_⟩) hS (fun hS => ?_)
      rotate_left 1
      · intro w hSw; (try dsimp only at hSw); go_simp
        with_reducible rfl
      try simp only [Act.put, List.setIfInBounds_toArray, List.set_cons_zero, List.set_cons_succ]
      refine wpAnyG_take' (i := 11) (oi := ⟨_, _, _, _, _, _⟩) (v := ?_) (fun _ => True) rfl (by kernel_rfl) (by kernel_rfl) (by kernel_rfl) (by kernel_rfl) (fun _ _ _ h => h) (fun _ _ => SIns.ind (by decide)) (fun _ _ _ _ _ => trivial) (Or.inl ⟨by rfl, ?_⟩) hS (fun hS => ?_)
      rotate_left 1
      · intro w hSw; (try dsimp only at hSw); go_simp
        with_reducible rfl
      try simp only [Act.put, List.setIfInBounds_toArray, List.set_cons_zero, List.set_cons_succ]
      refine wpAnyG_take' (i := 12) (oi := ⟨_, _, _, _, _, _⟩) (v := ?_) (fun w' => w'.cell? ⟨w.heap.size, 3, none⟩ = some (.slice ta tn tk)) rfl (by kernel_rfl) (by kernel_rfl) (by kernel_rfl) (by kernel_rfl) (fun _ _ _ h => h) (fun _ _ => SIns.ind (by decide)) (fun _ _ _ _ h => h.2.2.2) (Or.inl ⟨by rfl, ?_⟩) hS (fun hS => ?_)
      rotate_left 1
      · intro w hSw; (try dsimp only at hSw); go_simp
        with_reducible rfl
      try simp only [Act.put, List.setIfInBounds_toArray, List.set_cons_zero, List.set_cons_succ]
      refine wpAnyG_take' (i := 13) (oi := ⟨_, _, _, _, _, _⟩) (v := ?_) (fun _ => True) rfl (by kernel_rfl) (by kernel_rfl) (by kernel_rfl) (by kernel_rfl) (fun _ _ _ h => h) (fun _ _ => SIns.ind (by decide)) (fun _ _ _ _ _ => trivial) (Or.inl ⟨by rfl, ?_⟩) hS (fun hS => ?_)
      rotate_left 1
      · intro w hSw; (try dsimp only at hSw); go_simp
        with_reducible rfl
      try simp only [Act.put, List.setIfInBounds_toArray, List.set_cons_zero, List.set_cons_succ]
      refine wpAnyG_two (k := 1) (k' := 14) (o := ⟨_, _, _, _, _, _⟩) (o' := ⟨_, _, _, _, _, _⟩) (by kernel_rfl) rfl rfl ?_ ?_
      · intro K hK
        have HK := Lib.hid hK
        clear hK
        go_simp
        refine HK.out _ _ ⟨.inr (m1.cell p0 (fun h => h)), m1.cell b1 (fun h => h), m1.cell b2 (fun h => h), m1.cell b3 (fun h => h)⟩ (fun hS => ?_)
        clear HK K
        try simp only [Act.put, List.setIfInBounds_toArray, List.set_cons_zero, List.set_cons_succ]
        refine wpAnyG_two (k := 6) (k' := 14) (o := ⟨_, _, _, _, _, _⟩) (o' := ⟨_, _, _, _, _, _⟩) (by kernel_rfl) rfl rfl ?_ ?_
        · intro K hK
          have HK := Lib.hid hK
          clear hK
          with_reducible refine step_append run1 rfl rfl (by simp [Act.eval, Act.put]) (by simp [Act.eval, Act.put]) ?_
          refine HK.out _ _ ⟨.inl (by kernel_rfl), m2.cell b1 (fun h => h), m2.cell b2 (fun h => h), m2.cell b3 (fun h => h)⟩ (fun hS => ?_)
          clear HK K
          try simp only [Act.put, List.setIfInBounds_toArray, List.set_cons_zero, List.set_cons_succ]
          refine wpAnyG_one (k := 14) (o := ⟨_, _, _, _, _, _⟩) (by kernel_rfl) rfl ?_
          intro K hK
          have HK := Lib.hid hK
          clear hK
          go_simp
          refine HK.out _ _ ⟨.inl (by kernel_rfl), m22.cell b1 (fun h => h), m22.cell b2 (fun h => h), m22.cell b3 (fun h => h)⟩ (fun hS => ?_)
          clear HK K
          try simp only [Act.put, List.setIfInBounds_toArray, List.set_cons_zero, List.set_cons_succ]
          refine wpAnyG_one (k := 15) (o := ⟨_, _, _, _, _, _⟩) (by kernel_rfl) rfl ?_
          intro K hK
          have HK := Lib.hid hK
          clear hK
          with_reducible refine step_append run2 rfl rfl (by simp [Act.eval, Act.put]) (by simp [Act.eval, Act.put]) ?_
          refine HK.out _ _ ⟨.inl (by kernel_rfl), m3.cell b1 (fun h => h), m3.cell b2 (fun h => h), m3.cell b3 (fun h => h)⟩ (fun hS => ?_)
          clear HK K
          try simp only [Act.put, List.setIfInBounds_toArray, List.set_cons_zero, List.set_cons_succ]
          refine wpAnyG_one (k := 16) (o := ⟨_, _, _, _, _, _⟩) (by kernel_rfl) rfl ?_
          intro K hK
          have HK := Lib.hid hK
          clear hK
          go_simp
          go_at_call 27
          with_reducible refine (HFIN.out _ _ _ own2 m3).mono ?_
          rintro e w4 ⟨g', c', rfl, fr4, cl4, hm4, hdone⟩
          have HDONE := Lib.hid hdone
          clear hdone
          go_wp2_with fail
          refine HK.out _ _ ⟨.inl (by kernel_rfl), hm4.cell b1 (fun h => h), hm4.cell b2 (fun h => h), hm4.cell b3 (fun h => h)⟩ (fun hS => ?_)
          clear HK K
          try simp only [Act.put, List.setIfInBounds_toArray, List.set_cons_zero, List.set_cons_succ]
          refine wpAnyG_take' (i := 17) (oi := ⟨_, _, _, _, _, _⟩) (v := ?_) (fun _ => True) rfl (by kernel_rfl) (by kernel_rfl) (by kernel_rfl) (by kernel_rfl) (fun _ _ _ h => h) (fun _ _ => SIns.ind (by decide)) (fun _ _ _ _ _ => trivial) (Or.inl ⟨by rfl, ?_⟩) hS (fun hS => ?_)
          rotate_left 1
          · intro w hSw; (try dsimp only at hSw); go_simp
            with_reducible rfl
          try simp only [Act.put, List.setIfInBounds_toArray, List.set_cons_zero, List.set_cons_succ]
          refine wpAnyG_take' (i := 18) (oi := ⟨_, _, _, _, _, _⟩) (v := ?_) (fun _ => True) rfl (by kernel_rfl) (by kernel_rfl) (by kernel_rfl) (by kernel_rfl) (fun _ _ _ h => h) (fun _ _ => SIns.ind (by decide)) (fun _ _ _ _ _ => trivial) (Or.inl ⟨by rfl, ?_⟩) hS (fun hS => ?_)
          rotate_left 1
          · intro w hSw; (try dsimp only at hSw); go_simp
            with_reducible rfl
          try simp only [Act.put, List.setIfInBounds_toArray, List.set_cons_zero, List.set_cons_succ]
          refine wpAnyG_one (k := 19) (o := ⟨_, _, _, _, _, _⟩) (by kernel_rfl) rfl ?_
          intro K hK
          have HK := Lib.hid hK
          clear hK
          go_simp
          refine HK.out _ _ ⟨.inl (by kernel_rfl), HST.out _ hm4 _⟩ (fun hS => ?_)
          clear HK K
          try simp only [Act.put, List.setIfInBounds_toArray, List.set_cons_zero, List.set_cons_succ]
          refine wpAnyG_done (by kernel_rfl) ?_ _
          refine NoPanic.normal ?_
          go_wp2_with fail
          go_ret2
          exact ⟨rfl, by rw [← HY.out]; exact HDONE.out.1, HDONE.out.2⟩
        · intro K hK
          have HK := Lib.hid hK
          clear hK
          go_simp
          refine HK.out _ _ ⟨.inr (m1b.cell p0 (fun h => h)), m1b.cell b1 (fun h => h), m1b.cell b2 (fun h => h), m1b.cell b3 (fun h => h)⟩ (fun hS => ?_)
          clear HK K
          try simp only [Act.put, List.setIfInBounds_toArray, List.set_cons_zero, List.set_cons_succ]
          refine wpAnyG_one (k := 6) (o := ⟨_, _, _, _, _, _⟩) (by kernel_rfl) rfl ?_
          intro K hK
          have HK := Lib.hid hK
          clear hK
          with_reducible refine step_append run1b rfl rfl (by simp [Act.eval, Act.put]) (by simp [Act.eval, Act.put]) ?_
          refine HK.out _ _ ⟨.inl (by kernel_rfl), m2b.cell b1 (fun h => h), m2b.cell b2 (fun h => h), m2b.cell b3 (fun h => h)⟩ (fun hS => ?_)
          clear HK K
          try simp only [Act.put, List.setIfInBounds_toArray, List.set_cons_zero, List.set_cons_succ]
          refine wpAnyG_one (k := 15) (o := ⟨_, _, _, _, _, _⟩) (by kernel_rfl) rfl ?_
          intro K hK
          have HK := Lib.hid hK
          clear hK
          with_reducible refine step_append run2b rfl rfl (by simp [Act.eval, Act.put]) (by simp [Act.eval, Act.put]) ?_
          refine HK.out _ _ ⟨.inl (by kernel_rfl), m3b.cell b1 (fun h => h), m3b.cell b2 (fun h => h), m3b.cell b3 (fun h => h)⟩ (fun hS => ?_)
          clear HK K
          try simp only [Act.put, List.setIfInBounds_toArray, List.set_cons_zero, List.set_cons_succ]
          refine wpAnyG_one (k := 16) (o := ⟨_, _, _, _, _, _⟩) (by kernel_rfl) rfl ?_
          intro K hK
          have HK := Lib.hid hK
          clear hK
          go_simp
          go_at_call 27
          with_reducible refine (HFIN.out _ _ _ own2b m3b).mono ?_
          rintro e w4 ⟨g', c', rfl, fr4, cl4, hm4, hdone⟩
          have HDONE := Lib.hid hdone
          clear hdone
          go_wp2_with fail
          refine HK.out _ _ ⟨.inl (by kernel_rfl), hm4.cell b1 (fun h => h), hm4.cell b2 (fun h => h), hm4.cell b3 (fun h => h)⟩ (fun hS => ?_)
          clear HK K
          try simp only [Act.put, List.setIfInBounds_toArray, List.set_cons_zero, List.set_cons_succ]
          refine wpAnyG_take' (i := 17) (oi := ⟨_, _, _, _, _, _⟩) (v := ?_) (fun _ => True) rfl (by kernel_rfl) (by kernel_rfl) (by kernel_rfl) (by kernel_rfl) (fun _ _ _ h => h) (fun _ _ => SIns.ind (by decide)) (fun _ _ _ _ _ => trivial) (Or.inl ⟨by rfl, ?_⟩) hS (fun hS => ?_)
          rotate_left 1
          · intro w hSw; (try dsimp only at hSw); go_simp
            with_reducible rfl
          try simp only [Act.put, List.setIfInBounds_toArray, List.set_cons_zero, List.set_cons_succ]
          refine wpAnyG_take' (i := 18) (oi := ⟨_, _, _, _, _, _⟩) (v := ?_) (fun _ => True) rfl (by kernel_rfl) (by kernel_rfl) (by kernel_rfl) (by kernel_rfl) (fun _ _ _ h => h) (fun _ _ => SIns.ind (by decide)) (fun _ _ _ _ _ => trivial) (Or.inl ⟨by rfl, ?_⟩) hS (fun hS => ?_)
          rotate_left 1
          · intro w hSw; (try dsimp only at hSw); go_simp
            with_reducible rfl
          try simp only [Act.put, List.setIfInBounds_toArray, List.set_cons_zero, List.set_cons_succ]
          refine wpAnyG_one (k := 19) (o := ⟨_, _, _, _, _, _⟩) (by kernel_rfl) rfl ?_
          intro K hK
          have HK := Lib.hid hK
          clear hK
          go_simp
          refine HK.out _ _ ⟨.inl (by kernel_rfl), HST.out _ hm4 _⟩ (fun hS => ?_)
          clear HK K
          try simp only [Act.put, List.setIfInBounds_toArray, List.set_cons_zero, List.set_cons_succ]
          refine wpAnyG_done (by kernel_rfl) ?_ _
          refine NoPanic.normal ?_
          go_wp2_with fail
          go_ret2
          exact ⟨rfl, by rw [← HY.out]; exact HDONE.out.1, HDONE.out.2⟩
      · intro K hK
        have HK := Lib.hid hK
        clear hK
        go_simp
        refine HK.out _ _ ⟨.inr (m1s.cell p0 (fun h => h)), m1s.cell b1 (fun h => h), m1s.cell b2 (fun h => h), m1s.cell b3 (fun h => h)⟩ (fun hS => ?_)
        clear HK K
        try simp only [Act.put, List.setIfInBounds_toArray, List.set_cons_zero, List.set_cons_succ]
        refine wpAnyG_one (k := 1) (o := ⟨_, _, _, _, _, _⟩) (by kernel_rfl) rfl ?_
        intro K hK
        have HK := Lib.hid hK
        clear hK
        go_simp
        refine HK.out _ _ ⟨.inr (m1c.cell p0 (fun h => h)), m1c.cell b1 (fun h => h), m1c.cell b2 (fun h => h), m1c.cell b3 (fun h => h)⟩ (fun hS => ?_)
        clear HK K
        try simp only [Act.put, List.setIfInBounds_toArray, List.set_cons_zero, List.set_cons_succ]
        refine wpAnyG_one (k := 6) (o := ⟨_, _, _, _, _, _⟩) (by kernel_rfl) rfl ?_
        intro K hK
        have HK := Lib.hid hK
        clear hK
        with_reducible refine step_append run1c rfl rfl (by simp [Act.eval, Act.put]) (by simp [Act.eval, Act.put]) ?_
        refine HK.out _ _ ⟨.inl (by kernel_rfl), m2c.cell b1 (fun h => h), m2c.cell b2 (fun h => h), m2c.cell b3 (fun h => h)⟩ (fun hS => ?_)
        clear HK K
        try simp only [Act.put, List.setIfInBounds_toArray, List.set_cons_zero, List.set_cons_succ]
        refine wpAnyG_one (k := 15) (o := ⟨_, _, _, _, _, _⟩) (by kernel_rfl) rfl ?_
        intro K hK
        have HK := Lib.hid hK
        clear hK
        with_reducible refine step_append run2c rfl rfl (by simp [Act.eval, Act.put]) (by simp [Act.eval, Act.put]) ?_
        refine HK.out _ _ ⟨.inl (by kernel_rfl), m3c.cell b1 (fun h => h), m3c.cell b2 (fun h => h), m3c.cell b3 (fun h => h)⟩ (fun hS => ?_)
        clear HK K
        try simp only [Act.put, List.setIfInBounds_toArray, List.set_cons_zero, List.set_cons_succ]
        refine wpAnyG_one (k := 16) (o := ⟨_, _, _, _, _, _⟩) (by kernel_rfl) rfl ?_
        intro K hK
        have HK := Lib.hid hK
        clear hK
        go_simp
        go_at_call 27
        with_reducible refine (HFIN.out _ _ _ own2c m3c).mono ?_
        rintro e w4 ⟨g', c', rfl, fr4, cl4, hm4, hdone⟩
        have HDONE := Lib.hid hdone
        clear hdone
        go_wp2_with fail
        refine HK.out _ _ ⟨.inl (by kernel_rfl), hm4.cell b1 (fun h => h), hm4.cell b2 (fun h => h), hm4.cell b3 (fun h => h)⟩ (fun hS => ?_)
        clear HK K
        try simp only [Act.put, List.setIfInBounds_toArray, List.set_cons_zero, List.set_cons_succ]
        refine wpAnyG_take' (i := 17) (oi := ⟨_, _, _, _, _, _⟩) (v := ?_) (fun _ => True) rfl (by kernel_rfl) (by kernel_rfl) (by kernel_rfl) (by kernel_rfl) (fun _ _ _ h => h) (fun _ _ => SIns.ind (by decide)) (fun _ _ _ _ _ => trivial) (Or.inl ⟨by rfl, ?_⟩) hS (fun hS => ?_)
        rotate_left 1
        · intro w hSw; (try dsimp only at hSw); go_simp
          with_reducible rfl
        try simp only [Act.put, List.setIfInBounds_toArray, List.set_cons_zero, List.set_cons_succ]
        refine wpAnyG_take' (i := 18) (oi := ⟨_, _, _, _, _, _⟩) (v := ?_) (fun _ => True) rfl (by kernel_rfl) (by kernel_rfl) (by kernel_rfl) (by kernel_rfl) (fun _ _ _ h => h) (fun _ _ => SIns.ind (by decide)) (fun _ _ _ _ _ => trivial) (Or.inl ⟨by rfl, ?_⟩) hS (fun hS => ?_)
        rotate_left 1
        · intro w hSw; (try dsimp only at hSw); go_simp
          with_reducible rfl
        try simp only [Act.put, List.setIfInBounds_toArray, List.set_cons_zero, List.set_cons_succ]
        refine wpAnyG_one (k := 19) (o := ⟨_, _, _, _, _, _⟩) (by kernel_rfl) rfl ?_
        intro K hK
        have HK := Lib.hid hK
        clear hK
        go_simp
        refine HK.out _ _ ⟨.inl (by kernel_rfl), HST.out _ hm4 _⟩ (fun hS => ?_)
        clear HK K
        try simp only [Act.put, List.setIfInBounds_toArray, List.set_cons_zero, List.set_cons_succ]
        refine wpAnyG_done (by kernel_rfl) ?_ _
        refine NoPanic.normal ?_
        go_wp2_with fail
        go_ret2
        exact ⟨rfl, by rw [← HY.out]; exact HDONE.out.1, HDONE.out.2⟩
end
end Go.Proofs.Ytelfhcojpigkoaa
