/- The program's Say. -/
import Derived.Test.YtjacllnmpenbmaaDoorGWords
namespace Go.Proofs.YtjacllnmpenbmaaDoor
open Go Go.RowKit

theorem IterK.left_eq {α : Type} [DecidableEq α] {enc : α → Value} {w : World} {M r : Nat} {left : List (α × Value)} (h : IterK enc w M r left) : w.rangeLeft M r = left.length := by
  obtain ⟨es, cl, seen, hM, hr, -, -, hl⟩ := h
  unfold World.rangeLeft
  rw [hM, hr]
  simp only []
  have := congrArg List.length hl
  simp only [List.length_map] at this
  rw [← this]
  unfold leftOf
  simp [← Array.length_toList]
/-- Numbers, as integers. -/
def ints (ns : List Nat) : List Int := ns.map fun (n : Nat) => (n : Int)
/-- What Say answers. -/
def SayIs (l : List UInt8) (acks sv sub : Int) (ns : List Int) (err : Int) : Prop := match sayS l with
  | none => acks = 0 ∧ sv = 0 ∧ sub = 0 ∧ ns = [] ∧ err = 13
  | some (x, y, zs) => acks = 9 ∧ sv = (x : Int) ∧ sub = (y : Int) ∧ ns = ints zs ∧ err = 0
def SayPost (l : List UInt8) (w : World) (e : Ending) (w' : World) : Prop := ∃ (acks sv sub err : Int) (a : Option Addr) (n c : Nat) (ns : List Int), e = .returned (.tuple #[.agg #[.int .u8 acks, .int .u8 sv, .int .u8 sub, .int .u16 0, .slice a n c], .int .i64 err]) ∧
  w'.ownsRow w.heap.size 5 1 (.slice a n c) n (bv ns) ∧ n = ns.length ∧ SayIs l acks sv sub ns err ∧ Mod NoB w w'
theorem sayPost_none {l : List UInt8} {w w' : World} (h : sayS l = none) (hm : Mod NoB w w') : SayPost l w (.returned (.tuple #[.agg #[.int .u8 0, .int .u8 0, .int .u8 0, .int .u16 0, .slice none 0 0], .int .i64 13])) w' :=
  ⟨0, 0, 0, 13, none, 0, 0, [], rfl, World.ownsRow_nil _ _ _ _, rfl, by unfold SayIs; rw [h]; exact ⟨rfl, rfl, rfl, rfl, rfl⟩, hm⟩
theorem numsL_stop {t : List (List UInt8)} {k : Nat} {x : List UInt8} (hx : t[k]? = some x) (hn : numL x = none) : numsL t = none := by
  induction t generalizing k with
  | nil => simp at hx
  | cons y t ih =>
    unfold numsL
    cases k with
    | zero => simp at hx; subst hx; rw [hn]
    | succ k =>
      simp at hx
      rw [ih hx]
      split <;> rfl
theorem numsL_snoc : ∀ {t : List (List UInt8)} {ns : List Nat} {x : List UInt8} {n : Nat}, numsL t = some ns → numL x = some n → numsL (t ++ [x]) = some (ns ++ [n])
  | [], ns, x, n, h, hx => by simp [numsL] at h; subst h; simp [numsL, hx]
  | y :: t, ns, x, n, h, hx => by
    unfold numsL at h
    split at h
    · cases h
    · rename_i m hm
      split at h
      · cases h
      · rename_i ns' hr
        cases h
        rw [List.cons_append, numsL, hm, numsL_snoc hr hx]
        rfl
theorem sayS_nums {l h : List UInt8} {t : List (List UInt8)} (hs : splitL l = h :: t) (hn : numsL t = none) : sayS l = none := by
  unfold sayS
  rw [hs]
  simp only [hn]
theorem sayS_noword {l h : List UInt8} {t : List (List UInt8)} {ns : List Nat} (hs : splitL l = h :: t) (hn : numsL t = some ns) (hw : ∀ x ∈ wrds, byName h ns.length x = false) : sayS l = none := by
  unfold sayS
  rw [hs]
  simp only [hn]
  have : wrds.find? (byName h ns.length) = none := List.find?_eq_none.2 fun x hx => by rw [hw x hx]; simp
  rw [this]
theorem sayS_word {l h : List UInt8} {t : List (List UInt8)} {ns : List Nat} {x : Wrd} (hs : splitL l = h :: t) (hn : numsL t = some ns) (hx : x ∈ wrds) (hb : byName h ns.length x = true) : sayS l = some (x.sv, x.sub, ns) := by
  unfold sayS
  rw [hs]
  simp only [hn]
  have : wrds.find? (byName h ns.length) = some x := by
    cases hf : wrds.find? (byName h ns.length) with
    | none => exact absurd hb (List.find?_eq_none.1 hf x hx)
    | some y =>
      have h2 := List.find?_some hf
      simp [byName] at h2 hb
      rw [wrds_names y (List.mem_of_find?_eq_some hf) x hx (by rw [h2.1, hb.1])]
  rw [this]

theorem splitL_length (l : List UInt8) : (splitL l).length ≤ l.length + 1 := by
  induction l with
  | nil => simp [splitL]
  | cons c r ih =>
    unfold splitL
    split
    · simp; exact ih
    · split
      · simp
      · rename_i h t he
        rw [he] at ih
        simp at ih ⊢
        omega
theorem splitL_part (l : List UInt8) : ∀ p ∈ splitL l, p.length ≤ l.length := by
  induction l with
  | nil => intro p hp; simp [splitL] at hp; subst hp; simp
  | cons c r ih =>
    intro p hp
    unfold splitL at hp
    split at hp
    · rcases List.mem_cons.1 hp with rfl | hp
      · simp
      · have := ih p hp; simp; omega
    · split at hp
      · simp at hp; subst hp; simp
      · rename_i h t he
        rw [he] at ih
        rcases List.mem_cons.1 hp with rfl | hp
        · have := ih h (by simp); simp; omega
        · have := ih p (by simp [hp]); simp; omega
theorem bytesOf_get {pt : List ByteArray} {k : Nat} {p : ByteArray} (h : pt[k]? = some p) : (bytesOf pt)[k]? = some p.data.toList := by simp [bytesOf, h]
theorem bytesOf_take_succ {pt : List ByteArray} {k : Nat} {p : ByteArray} (h : pt[k]? = some p) : bytesOf (pt.take (k + 1)) = bytesOf (pt.take k) ++ [p.data.toList] := by
  rw [List.take_add_one, h]
  simp [bytesOf]

theorem ent_inj : ∀ a ∈ wrds, ∀ b ∈ wrds, ent a = ent b → a = b := fun a ha b hb h => by
  have := congrArg Prod.fst h
  simp only [ent, Prod.mk.injEq] at this
  exact wrds_kinds a ha b hb this.1 this.2
/-- Five cells stored, one behind the other. -/
def st5 (w : World) (q : Nat) (u0 u1 u2 u3 u4 : Value) : World := ((((w.setCell ⟨q, 0, none⟩ u0).setCell ⟨q, 1, none⟩ u1).setCell ⟨q, 2, none⟩ u2).setCell ⟨q, 3, none⟩ u3).setCell ⟨q, 4, none⟩ u4
theorem st5_blk {w : World} {q e : Nat} {c0 c1 c2 c3 c4 : Value} (h : Blk w q e [c0, c1, c2, c3, c4]) (u0 u1 u2 u3 u4 : Value) : Blk (st5 w q u0 u1 u2 u3 u4) q e [u0, u1, u2, u3, u4] := by
  unfold st5
  exact ((((h.setCell 0 u0).setCell 1 u1).setCell 2 u2).setCell 3 u3).setCell 4 u4
theorem st5_mod (w : World) (q : Nat) (u0 u1 u2 u3 u4 : Value) : Mod (· = q) w (st5 w q u0 u1 u2 u3 u4) := by
  unfold st5
  exact (((((Mod.refl (· = q) w).setCell _ (fun _ => rfl)).setCell _ (fun _ => rfl)).setCell _ (fun _ => rfl)).setCell _ (fun _ => rfl)).setCell _ (fun _ => rfl)
theorem say_ret {w w2 : World} {q : Nat} {l : List UInt8} {a : Act} {c0 c1 c2 c3 c4 : Value} (acks sv sub : Int) (x : Option Addr) (n c : Nat) (err : Int) (hb : Blk w2 q 25 [c0, c1, c2, c3, c4]) (hd : a.defers = []) (ht : a.tmps[2]? = some (.pointer (some ⟨q, 0, none⟩))) (ht3 : a.tmps[3]? = some (.int .i64 err))
    (hp : SayPost l w (.returned (.tuple #[.agg #[.int .u8 acks, .int .u8 sv, .int .u8 sub, .int .u16 0, .slice x n c], .int .i64 err])) (st5 w2 q (.int .u8 acks) (.int .u8 sv) (.int .u8 sub) (.int .u16 0) (.slice x n c))) :
    bodyPost Tryd.prog Tryd.f7 (SayPost l w) Exit.ret a (st5 w2 q (.int .u8 acks) (.int .u8 sv) (.int .u8 sub) (.int .u16 0) (.slice x n c)) := by
  have hf := st5_blk hb (.int .u8 acks) (.int .u8 sv) (.int .u8 sub) (.int .u16 0) (.slice x n c)
  have r0 := hf.cell 0
  have r1 := hf.cell 1
  have r2 := hf.cell 2
  have r3 := hf.cell 3
  have r4 := hf.cell 4
  simp at r0 r1 r2 r3 r4
  refine bodyPost_ret ?_ hd hp
  simp [results, Tryd.results7, go_sem, r0, r1, r2, r3, r4, ht, ht3]
set_option maxHeartbeats 2000000 in
set_option maxRecDepth 20000 in
theorem say_walk (w : World) (hg : Glob w) (s : ByteArray) (hs : s.size ≤ 1000) : Calls Tryd.prog 7 #[.string s] w (SayPost s.data.toList w) := by
  obtain ⟨w0, hw0⟩ : ∃ w0, w0 = w.alloc (.cells #[.int .u8 0, .int .u8 0, .int .u8 0, .int .u16 0, .slice none 0 0] 25) := ⟨_, rfl⟩
  have hm0 : Mod NoB w w0 := by rw [hw0]; exact (Mod.refl _ _).alloc _
  have hq0 : Blk w0 w.heap.size 25 [.int .u8 0, .int .u8 0, .int .u8 0, .int .u16 0, .slice none 0 0] := by rw [hw0]; exact Blk.new w _ _
  have hsp := split_walk w0 (hg.nob hm0) s hs
  have HG := Lib.hid hg
  have HSP := Lib.hid hsp
  have HW0 := Lib.hid hw0
  clear hg hsp hw0
  go_enter Tryd.func7, Tryd.ntmps7
  go_wp2_with fail
  rw [show w.alloc (.cells #[.int .u8 0, .int .u8 0, .int .u8 0, .int .u16 0, .slice none 0 0] 25) = w0 from HW0.out.symm]
  refine HSP.out.mono ?_
  rintro e w1 ⟨ps, rfl, hps, hb1, hm1⟩
  have h01 := hm0.trans hm1
  obtain ⟨p0, pt, rfl⟩ : ∃ p0 pt, ps = p0 :: pt := by
    cases ps with
    | nil => exact absurd hps.symm (splitL_ne _)
    | cons p0 pt => exact ⟨p0, pt, rfl⟩
  have hspl : splitL s.data.toList = p0.data.toList :: bytesOf pt := hps.symm
  have hpl : pt.length ≤ s.size := by
    have h1 := splitL_length s.data.toList
    rw [hspl] at h1
    simp [bytesOf] at h1
    omega
  have hpart : ∀ p ∈ pt, p.size ≤ 1000 := fun p hp => by
    have h1 := splitL_part s.data.toList p.data.toList (by rw [hspl]; exact List.mem_cons_of_mem _ (List.mem_map.2 ⟨p, hp, rfl⟩))
    simp at h1
    omega
  have HPART := Lib.hid hpart
  clear hpart
  obtain ⟨m, hmlen⟩ : ∃ m, m = pt.length := ⟨_, rfl⟩
  simp only [List.length_cons] at *
  rw [← hmlen] at hpl ⊢
  have HSPL := Lib.hid hspl
  have HM := Lib.hid hmlen
  clear hps hspl hmlen
  obtain ⟨b, hb⟩ : ∃ b, b = w0.heap.size := ⟨_, rfl⟩
  rw [← hb] at hb1 ⊢
  have c0 := hb1.cell 0
  simp at c0
  have hbw : w.heap.size ≤ b := by rw [hb]; exact hm0.size
  have HB := Lib.hid hb
  clear hb
  obtain ⟨o1, hsl, hcell⟩ : ∃ o1, (∀ W : World, (Instr.slice 45 (.slice (some ⟨b, 0, none⟩) (m + 1) (m + 1)) (some (.int .i64 1)) none none).run Tryd.prog W = .ok (.slice (some ⟨b, o1, none⟩) m m) W) ∧ ∀ j p, pt[j]? = some p → w1.cell? ⟨b, o1 + j, none⟩ = some (.string p) := by
    by_cases hz : m = 0
    · refine ⟨0, fun W => ?_, fun j p hp => ?_⟩
      · subst hz
        go_simp
      · have := (List.getElem?_eq_some_iff.1 hp).1
        rw [← HM.out, hz] at this
        omega
    · refine ⟨1, fun W => ?_, fun j p hp => ?_⟩
      · have hz' : ¬ (m + 1 = 1) := by omega
        go_simp
        intro h
        omega
      · rw [hb1.cell]
        simp [Nat.add_comm 1 j, hp]
  have HC := Lib.hid hcell
  clear hcell
  have hq1 := hq0.mod hm1 (fun h => h)
  go_wp2_with fail
  clear hsl
  go_loopw [5, 17] (fun q i wr => ∃ (k : Nat) (ns : List Nat), k ≤ m ∧ i = .int .i64 k ∧ ns.length = k ∧ numsL (bytesOf (pt.take k)) = some ns ∧ wr.ownsRow w1.heap.size 5 1 q k (bv (ints ns)) ∧ Mod NoB w1 wr) (fun _ i _ => m - (intOf i).toNat)
  case atStart => exact ⟨0, [], Nat.zero_le _, rfl, rfl, rfl, World.ownsRow_nil _ _ _ _, Mod.refl _ _⟩
  case round =>
    obtain ⟨k, ns, hk, rfl, hnl, hns, hq, hm⟩ := hrel
    have HNL := Lib.hid hnl
    have HNS := Lib.hid hns
    clear hnl hns
    by_cases hlt : k < m
    · have hkl : k < pt.length := by rw [← HM.out]; exact hlt
      obtain ⟨p, hp⟩ : ∃ p, pt[k]? = some p := ⟨_, List.getElem?_eq_getElem hkl⟩
      have cp := hm.cell (HC.out k p hp) (fun h => h)
      have hps := HPART.out p (List.mem_of_getElem? hp)
      have HP := Lib.hid hp
      clear hp hkl
      go_wp2_with fail
      refine (number_walk wr (HG.out.nob (h01.trans hm)) p hps).mono ?_
      rintro e w2 ⟨bb, ok, rfl, hok, hno, hm2⟩
      cases hnum : numL p.data.toList with
      | none =>
        obtain rfl := hno hnum
        have HN := Lib.hid (sayS_nums HSPL.out (numsL_stop (bytesOf_get HP.out) hnum))
        have hqb := (hq1.mod hm (fun h => h)).mod hm2 (fun h => h)
        have q0 := hqb.cell 0
        have q1 := hqb.cell 1
        have q2 := hqb.cell 2
        have q3 := hqb.cell 3
        have q4 := hqb.cell 4
        have f0 := hqb.frozen 0
        have f1 := hqb.frozen 1
        have f2 := hqb.frozen 2
        have f3 := hqb.frozen 3
        have f4 := hqb.frozen 4
        simp at q0 q1 q2 q3 q4
        clear hno hok hnum
        go_wp2_with fail
        refine say_ret 0 0 0 none 0 0 13 hqb rfl rfl rfl (sayPost_none HN.out ?_)
        exact (((h01.trans hm).trans hm2).trans' (st5_mod _ _ _ _ _ _ _) (fun k' hk' e => by omega))
      | some z =>
        obtain ⟨rfl, rfl⟩ := hok z hnum
        have hw2 := h01.trans (hm.trans hm2)
        have hq2 := hm2.own hq (fun _ _ h => h)
        have hbW := Blk.new w2 5 [Value.int .u8 (z : Int)]
        have hmW : Mod NoB w2 (w2.alloc (.cells [Value.int .u8 (z : Int)].toArray 5)) := (Mod.refl _ _).alloc _
        obtain ⟨v', w3, hrun, hown3, hm3, hb3, hn3⟩ := append_own (P := Tryd.prog) Tryd.elemU8 (hmW.own hq2 (fun _ _ h => h)) (m := 1) (by simp) (hbW.arr 0) (fun u hu => by simp at hu; subst hu; rfl) (by unfold maxLen; omega) (by omega) (by have := (hm.trans hm2).size; have := hmW.size; omega)
        have hm13 : Mod NoB w1 w3 := ((hm.trans hm2).trans hmW).trans' hm3 (fun k' hk' e => by have := (hq.lt k' e).1; omega)
        have HO := Lib.hid (show w3.ownsRow w1.heap.size 5 1 v' (k + 1) (bv (ints (ns ++ [z]))) by simpa [ints, bv] using hown3)
        have HNS2 := Lib.hid (show numsL (bytesOf (pt.take (k + 1))) = some (ns ++ [z]) by rw [bytesOf_take_succ HP.out]; exact numsL_snoc HNS.out hnum)
        clear hno hok hnum hown3 hbW hmW hm3 hb3 hn3 hq2
        go_wp2_with (at_builtin; refine wpList_of_run rfl (exec_builtin2 (b := .append) (fun _ _ _ _ => rfl) _ _ 23 23 rfl rfl rfl (hrun _ _)) ?_)
        go_roundw
        case rel => exact ⟨k + 1, ns ++ [z], by omega, by go_num, by simp [HNL.out], HNS2.out, HO.out, hm13⟩
        case measure => simp [intOf]; omega
    · obtain rfl : k = m := by omega
      have htk : pt.take k = pt := List.take_of_length_le (by rw [← HM.out]; exact Nat.le_refl _)
      have hns := HNS.out
      rw [htk] at hns
      have HN := Lib.hid hns
      obtain ⟨da, dc, rfl⟩ := own_slice hq
      have h0r := h01.trans hm
      have hqr := hq1.mod hm (fun h => h)
      have hbr := hb1.mod hm (fun h => h)
      obtain ⟨wo, rfl⟩ : ∃ wo : World, wo = wr := ⟨_, rfl⟩
      clear htk hns hlt HNS hq1 hb1
      go_wp2_with fail
      refine (words_walk wo).mono ?_
      rintro e w5 ⟨M, L, rfl, hperm, hmap, hMo, hm5⟩
      have hw5 := h0r.trans hm5
      have hq5 := hqr.mod hm5 (fun h => h)
      have hb5 := hbr.mod hm5 (fun h => h)
      have ho5 := hm5.own hq (fun _ _ h => h)
      obtain ⟨w6, hrng, hit, hm6, hsz6⟩ := run_rangeK (P := Tryd.prog) Tryd.underlying49 hmap
      have hw6 := hw5.trans hm6
      have hq6 := hq5.mod hm6 (fun h => h)
      have hb6 := hb5.mod hm6 (fun h => h)
      have ho6 := hm6.own ho5 (fun _ _ h => h)
      have HPERM := Lib.hid hperm
      clear hperm hmap
      go_wp2_with fail
      obtain ⟨r, hr⟩ : ∃ r, r = w5.heap.size := ⟨_, rfl⟩
      rw [← hr] at hit hrng ⊢
      have hrw : w.heap.size ≤ r := by rw [hr]; exact hw5.size
      have hr1 : w1.heap.size ≤ r := by rw [hr]; exact (hm.trans hm5).size
      have hrq : ¬ w.heap.size = r := by have := hq5.lt; omega
      have hrb : ¬ b = r := by have := hb5.lt; omega
      have hro : ∀ g, (Value.slice da k dc).ownBlock = some g → ¬ g = r := fun g hg e => by have := own_lt ho5 hg; omega
      have HRO := Lib.hid hro
      have HR := Lib.hid hr
      clear hr hrng hro hq5 hb5 ho5 hqr hbr hq
      go_loopw [10] (fun _ wr => ∃ left, IterK encK wr M r left ∧ (∀ y ∈ left, y ∈ L) ∧ (∀ x ∈ wrds, ent x ∉ left → byName p0.data.toList ns.length x = false) ∧ Mod (fun j => j = r) w6 wr) (fun _ wr => wr.rangeLeft M r)
      case atStart => exact ⟨L, hit, fun y hy => hy, fun x hx hn => absurd (HPERM.out.mem_iff.2 (List.mem_map.2 ⟨x, hx, rfl⟩)) hn, Mod.refl _ _⟩
      case round =>
        obtain ⟨left, hit7, hsub, hdone, hm7⟩ := hrel
        have HSUB := Lib.hid hsub
        have HDONE := Lib.hid hdone
        have hq7 := hq6.mod hm7 hrq
        have hb7 := hb6.mod hm7 hrb
        have ho7 := hm7.own ho6 HRO.out
        have hw7 : Mod NoB w wr := hw6.trans' hm7 (fun j hj e => by omega)
        clear hsub hdone
        rcases run_nextK (P := Tryd.prog) 0 hit7 with ⟨hnil, w8, hrun, hw8⟩ | ⟨A, B, y, w8, hl, hrun, hit8, hm8, hsz8, hen⟩
        · have hm8 : Mod NoB wr w8 := by
            rcases hw8 with rfl | rfl
            · exact Mod.refl _ _
            · exact (Mod.refl _ _).drew
          have HN2 := Lib.hid (sayS_noword HSPL.out HN.out (fun x hx => HDONE.out x hx (by rw [hnil]; simp)))
          have hqb := hq7.mod hm8 (fun h => h)
          have q0 := hqb.cell 0
          have q1 := hqb.cell 1
          have q2 := hqb.cell 2
          have q3 := hqb.cell 3
          have q4 := hqb.cell 4
          have f0 := hqb.frozen 0
          have f1 := hqb.frozen 1
          have f2 := hqb.frozen 2
          have f3 := hqb.frozen 3
          have f4 := hqb.frozen 4
          simp at q0 q1 q2 q3 q4
          clear hw8 hnil hit hit7
          go_wp2_with fail
          refine say_ret 0 0 0 none 0 0 13 hqb rfl rfl rfl (sayPost_none HN2.out ?_)
          exact ((hw7.trans hm8).trans' (st5_mod _ _ _ _ _ _ _) (fun k' hk' e => by omega))
        · have hyL : y ∈ L := HSUB.out y (by rw [hl]; simp)
          obtain ⟨x, hxw, hxy⟩ := List.mem_map.1 (HPERM.out.mem_iff.1 hyL)
          subst hxy
          simp only [ent, encK, gval] at hrun hen
          have hq8 := hq7.mod hm8 hrq
          have hb8 := hb7.mod hm8 hrb
          have ho8 := hm8.own ho7 HRO.out
          have hw8 : Mod NoB w w8 := hw7.trans' hm8 (fun j hj e => by omega)
          have hm68 : Mod (fun j => j = r) w6 w8 := hm7.trans' hm8 (fun j _ e => e)
          have c0 := ((hb8.alloc (.cells #[.int .u8 (x.sv : Int), .int .u8 (x.sub : Int)] 52)).alloc (.cells #[.string ⟨x.name.toArray⟩, .int .i64 (x.n : Int)] 54)).cell 0
          simp at c0
          have HL := Lib.hid hl
          have HX := Lib.hid hxw
          have hlen7 := hit7.left_eq
          have HLEN := Lib.hid (show ∀ W : World, IterK encK W M r (A ++ B) → W.rangeLeft M r < wr.rangeLeft M r from fun W h => by rw [h.left_eq, hlen7, hl]; simp)
          clear hyL hl hxw hit hlen7
          have hstay : ∀ o1 o2 : Obj, IterK encK ((w8.alloc o1).alloc o2) M r (A ++ B) := fun o1 o2 => hit8.mod (((Mod.refl NoB w8).alloc o1).alloc o2) (fun h => h) (fun h => h)
          have HSTAY := Lib.hid hstay
          clear hstay
          go_wp2_with fail
          have hmA : Mod NoB w8 ((w8.alloc (.cells #[.int .u8 (x.sv : Int), .int .u8 (x.sub : Int)] 52)).alloc (.cells #[.string ⟨x.name.toArray⟩, .int .i64 (x.n : Int)] 54)) := ((Mod.refl _ _).alloc _).alloc _
          by_cases hname : x.name = p0.data.toList
          · have hd1 : decide (x.name = p0.toList) = true := by rw [Go.ByteArray.toList_eq]; simpa using hname
            have hd1' : (x.name == p0.toList) = true := by rw [Go.ByteArray.toList_eq, ← hname]; simp
            by_cases hnum : x.n = k
            · have hd2 : ((x.n : Int) == (k : Int)) = true := by rw [hnum]; simp
              have HW := Lib.hid (sayS_word HSPL.out HN.out HX.out (by simp [byName, hname, hnum, HNL.out]))
              have hqA := hq8.mod hmA (fun h => h)
              have q0 := hqA.cell 0
              have q1 := hqA.cell 1
              have q2 := hqA.cell 2
              have q3 := hqA.cell 3
              have q4 := hqA.cell 4
              have f0 := hqA.frozen 0
              have f1 := hqA.frozen 1
              have f2 := hqA.frozen 2
              have f3 := hqA.frozen 3
              have f4 := hqA.frozen 4
              simp at q0 q1 q2 q3 q4
              clear hname hnum
              go_quiet (fail)
              go_wp2_with fail
              have hmN := hmA.drewN nq
              have hqN := hq8.mod hmN (fun h => h)
              have hoN := hmN.own ho8 (fun _ _ h => h)
              refine say_ret 9 x.sv x.sub da k dc 0 hqN rfl rfl rfl ⟨9, x.sv, x.sub, 0, da, k, dc, ints ns, rfl, ?_, ?_, ?_, ?_⟩
              · exact (st5_mod _ _ _ _ _ _ _).own (own_mono hoN h01.size) (fun g hg e => own_ne_blk hoN hqN (by decide) (by rw [hg, e]))
              · rw [← HNL.out]; simp [ints]
              · unfold SayIs
                rw [HW.out]
                exact ⟨rfl, rfl, rfl, rfl, rfl⟩
              · exact ((hw8.trans hmN).trans' (st5_mod _ _ _ _ _ _ _) (fun k' hk' e => by omega))
            · have hd2 : ((x.n : Int) == (k : Int)) = false := by simp; omega
              have HB2 := Lib.hid (show byName p0.data.toList ns.length x = false by simp [byName, HNL.out, hnum])
              clear hname hnum
              go_quiet (fail)
              go_wp2_with fail
              go_roundw
              case rel =>
                refine ⟨A ++ B, hit8.mod (hmA.drewN nq) (fun h => h) (fun h => h), fun y hy => HSUB.out y ?_, fun z hz hzn => ?_, hm68.trans' (hmA.drewN nq) (fun _ _ h => h.elim)⟩
                · rw [HL.out]; rcases List.mem_append.1 hy with h | h <;> simp [h]
                · by_cases hzx : z = x
                  · rw [hzx]; exact HB2.out
                  · refine HDONE.out z hz (fun hzl => ?_)
                    rw [HL.out] at hzl
                    rcases List.mem_append.1 hzl with h | h
                    · exact hzn (by simp [h])
                    · rcases List.mem_cons.1 h with h | h
                      · exact hzx (ent_inj z hz x HX.out h)
                      · exact hzn (by simp [h])
              case measure => exact HLEN.out _ (hit8.mod (hmA.drewN nq) (fun h => h) (fun h => h))
          · have hd1 : decide (x.name = p0.toList) = false := by rw [Go.ByteArray.toList_eq]; simpa using hname
            have hd1' : (x.name == p0.toList) = false := by rw [Go.ByteArray.toList_eq, beq_eq_false_iff_ne]; exact hname
            have HB2 := Lib.hid (show byName p0.data.toList ns.length x = false by simp [byName, hname])
            clear hname
            go_quiet (fail)
            go_wp2_with fail
            go_roundw
            case rel =>
              refine ⟨A ++ B, hit8.mod (hmA.drewN nq) (fun h => h) (fun h => h), fun y hy => HSUB.out y ?_, fun z hz hzn => ?_, hm68.trans' (hmA.drewN nq) (fun _ _ h => h.elim)⟩
              · rw [HL.out]; rcases List.mem_append.1 hy with h | h <;> simp [h]
              · by_cases hzx : z = x
                · rw [hzx]; exact HB2.out
                · refine HDONE.out z hz (fun hzl => ?_)
                  rw [HL.out] at hzl
                  rcases List.mem_append.1 hzl with h | h
                  · exact hzn (by simp [h])
                  · rcases List.mem_cons.1 h with h | h
                    · exact hzx (ent_inj z hz x HX.out h)
                    · exact hzn (by simp [h])
            case measure => exact HLEN.out _ (hit8.mod (hmA.drewN nq) (fun h => h) (fun h => h))
end Go.Proofs.YtjacllnmpenbmaaDoor
