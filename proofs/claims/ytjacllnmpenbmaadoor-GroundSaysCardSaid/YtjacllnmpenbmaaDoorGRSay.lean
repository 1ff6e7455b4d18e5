/- The reference's Say. -/
import Derived.Test.YtjacllnmpenbmaaDoorGSay
namespace Go.Proofs.YtjacllnmpenbmaaDoor
open Go Go.RowKit

def RSayIs (l : List UInt8) (acks sv sub : Int) (ns : List Int) (ok : Bool) : Prop := match sayS l with
  | none => acks = 0 ∧ sv = 0 ∧ sub = 0 ∧ ns = [] ∧ ok = false
  | some (x, y, zs) => acks = 9 ∧ sv = (x : Int) ∧ sub = (y : Int) ∧ ns = ints zs ∧ ok = true
def RSayPost (l : List UInt8) (w : World) (e : Ending) (w' : World) : Prop := ∃ (acks sv sub : Int) (ok : Bool) (a : Option Addr) (n c : Nat) (ns : List Int), e = .returned (.tuple #[.agg #[.int .u8 acks, .int .u8 sv, .int .u8 sub, .int .u16 0, .slice a n c], .bool ok]) ∧
  w'.ownsRow w.heap.size 5 1 (.slice a n c) n (bv ns) ∧ n = ns.length ∧ RSayIs l acks sv sub ns ok ∧ Mod NoB w w'
theorem rsayPost_none {l : List UInt8} {w w' : World} (h : sayS l = none) (hm : Mod NoB w w') : RSayPost l w (.returned (.tuple #[.agg #[.int .u8 0, .int .u8 0, .int .u8 0, .int .u16 0, .slice none 0 0], .bool false])) w' :=
  ⟨0, 0, 0, false, none, 0, 0, [], rfl, World.ownsRow_nil _ _ _ _, rfl, by unfold RSayIs; rw [h]; exact ⟨rfl, rfl, rfl, rfl, rfl⟩, hm⟩
theorem rsay_ret {w w2 : World} {q : Nat} {l : List UInt8} {a : Act} {c0 c1 c2 c3 c4 : Value} (acks sv sub : Int) (x : Option Addr) (n c : Nat) (ok : Bool) (hb : Blk w2 q 32 [c0, c1, c2, c3, c4]) (hd : a.defers = []) (ht : a.tmps[2]? = some (.pointer (some ⟨q, 0, none⟩))) (ht3 : a.tmps[3]? = some (.bool ok))
    (hp : RSayPost l w (.returned (.tuple #[.agg #[.int .u8 acks, .int .u8 sv, .int .u8 sub, .int .u16 0, .slice x n c], .bool ok])) (st5 w2 q (.int .u8 acks) (.int .u8 sv) (.int .u8 sub) (.int .u16 0) (.slice x n c))) :
    bodyPost Tryd.prog Tryd.f8 (RSayPost l w) Exit.ret a (st5 w2 q (.int .u8 acks) (.int .u8 sv) (.int .u8 sub) (.int .u16 0) (.slice x n c)) := by
  have hf := st5_blk hb (.int .u8 acks) (.int .u8 sv) (.int .u8 sub) (.int .u16 0) (.slice x n c)
  have r0 := hf.cell 0
  have r1 := hf.cell 1
  have r2 := hf.cell 2
  have r3 := hf.cell 3
  have r4 := hf.cell 4
  simp at r0 r1 r2 r3 r4
  refine bodyPost_ret ?_ hd hp
  simp [results, Tryd.results8, go_sem, r0, r1, r2, r3, r4, ht, ht3]
/-- Nobody matches: nothing is said. -/
theorem sayS_nobody {l h : List UInt8} {t : List (List UInt8)} (hs : splitL l = h :: t) (hw : ∀ x ∈ wrds, byName h t.length x = false) : sayS l = none := by
  cases hn : numsL t with
  | none => exact sayS_nums hs hn
  | some ns => exact sayS_noword hs hn (by rw [numsL_length hn]; exact hw)
theorem flatMap_get4 (L : List Wrd) (k j : Nat) (x : Wrd) (hx : L[k]? = some x) (hj : j < 4) : (L.flatMap wcell)[k * 4 + j]? = (wcell x)[j]? := by
  induction L generalizing k with
  | nil => simp at hx
  | cons y L ih =>
    cases k with
    | zero =>
      simp at hx
      subst hx
      rw [List.flatMap_cons, List.getElem?_append_left (by simp [wcell]; omega)]
      simp
    | succ k =>
      simp at hx
      rw [List.flatMap_cons, List.getElem?_append_right (by simp [wcell]; omega), show (k + 1) * 4 + j - (wcell y).length = k * 4 + j by simp [wcell]; omega]
      exact ih k hx

set_option maxHeartbeats 2000000 in
set_option maxRecDepth 20000 in
theorem rsay_walk (w : World) (s : ByteArray) (hs : s.size ≤ 1000) : Calls Tryd.prog 8 #[.string s] w (RSayPost s.data.toList w) := by
  obtain ⟨w0, hw0⟩ : ∃ w0, w0 = w.alloc (.cells #[.int .u8 0, .int .u8 0, .int .u8 0, .int .u16 0, .slice none 0 0] 32) := ⟨_, rfl⟩
  have hm0 : Mod NoB w w0 := by rw [hw0]; exact (Mod.refl _ _).alloc _
  have hq0 : Blk w0 w.heap.size 32 [.int .u8 0, .int .u8 0, .int .u8 0, .int .u16 0, .slice none 0 0] := by rw [hw0]; exact Blk.new w _ _
  have HSP := Lib.hid (rsplit_walk w0 s hs)
  have HW0 := Lib.hid hw0
  clear hw0
  go_enter Tryd.func8, Tryd.ntmps8
  go_wp2_with fail
  rw [show w.alloc (.cells #[.int .u8 0, .int .u8 0, .int .u8 0, .int .u16 0, .slice none 0 0] 32) = w0 from HW0.out.symm]
  refine HSP.out.mono ?_
  rintro e w1 ⟨sa, sn, sc, ps, rfl, hsn, ho1, hps, hm1⟩
  have h01 := hm0.trans hm1
  obtain ⟨p0, pt, rfl⟩ : ∃ p0 pt, ps = p0 :: pt := by
    cases ps with
    | nil => exact absurd hps.symm (splitL_ne _)
    | cons p0 pt => exact ⟨p0, pt, rfl⟩
  have hspl : splitL s.data.toList = p0.data.toList :: bytesOf pt := hps.symm
  have hpl : pt.length ≤ s.size := by
    have h1 := splitL_length s.data.toList
    rw [hspl] at h1
    simp [bytesOf] at h1
    omega
  have HPART := Lib.hid (show ∀ p ∈ pt, p.size ≤ 1000 from fun p hp => by
    have h1 := splitL_part s.data.toList p.data.toList (by rw [hspl]; exact List.mem_cons_of_mem _ (List.mem_map.2 ⟨p, hp, rfl⟩))
    simp at h1
    omega)
  obtain ⟨m, hmlen⟩ : ∃ m, m = pt.length := ⟨_, rfl⟩
  have hsn' : sn = m + 1 := by rw [hsn, hmlen]; rfl
  subst hsn'
  rw [← hmlen] at hpl
  have HSPL := Lib.hid hspl
  have HM := Lib.hid hmlen
  obtain ⟨-, hnc, hcm⟩ := own_len ho1
  unfold maxLen at hcm
  obtain ⟨g, rfl⟩ : ∃ g, sa = some ⟨g, 0, none⟩ := by
    rcases ho1.2 with ⟨h, h0⟩ | ⟨g, cap, cur, h, -⟩
    · omega
    · cases h; exact ⟨g, rfl⟩
  have c0 : w1.cell? ⟨g, 0, none⟩ = some (.string p0) := by rw [ho1.cellAt 0 (by omega)]; rfl
  clear hps hspl hmlen hsn
  obtain ⟨o1, hsl, hcell⟩ : ∃ o1, (∀ W : World, (Instr.slice 45 (.slice (some ⟨g, 0, none⟩) (m + 1) sc) (some (.int .i64 1)) none none).run Tryd.prog W = .ok (.slice (some ⟨g, o1, none⟩) m (sc - 1)) W) ∧ ∀ j p, pt[j]? = some p → w1.cell? ⟨g, o1 + j, none⟩ = some (.string p) := by
    by_cases hz : sc = 1
    · refine ⟨0, fun W => ?_, fun j p hp => ?_⟩
      · have hz0 : m = 0 := by omega
        subst hz hz0
        go_simp
      · have := (List.getElem?_eq_some_iff.1 hp).1
        have := HM.out
        omega
    · refine ⟨1, fun W => ?_, fun j p hp => ?_⟩
      · go_simp
        intro h
        omega
      · have hj := (List.getElem?_eq_some_iff.1 hp).1
        have := HM.out
        rw [ho1.cellAt (1 + j) (by omega)]
        simp [Nat.add_comm 1 j, hp]
  have HC := Lib.hid hcell
  have HSL := Lib.hid hsl
  clear hcell hsl
  have hq1 := hq0.mod hm1 (fun h => h)
  go_wp2_with fail
  refine (rwords_walk w1).mono ?_
  rintro e w2 ⟨rfl, hbw, hm2⟩
  have h02 := h01.trans hm2
  have hq2 := hq1.mod hm2 (fun h => h)
  have c0 := hm2.cell c0 (fun h => h)
  have ho2 := hm2.own ho1 (fun _ _ h => h)
  obtain ⟨wb, hwb⟩ : ∃ wb, wb = w1.heap.size := ⟨_, rfl⟩
  rw [← hwb] at hbw ⊢
  have HWB := Lib.hid hwb
  clear hwb ho1 hq1
  go_wp2_with fail
  go_loopw [15] (fun i wr => ∃ k : Nat, k ≤ 18 ∧ i = .int .i64 k ∧ (∀ (j : Nat) (x : Wrd), j < k → wrds[j]? = some x → byName p0.data.toList m x = false) ∧ Mod NoB w2 wr) (fun i _ => 18 - (intOf i).toNat)
  case atStart => exact ⟨0, by omega, rfl, fun j x hj => by omega, Mod.refl _ _⟩
  case round =>
    obtain ⟨k, hk, rfl, hno, hm⟩ := hrel
    have HNO := Lib.hid hno
    clear hno
    by_cases hlt : k < 18
    · obtain ⟨x, hx⟩ : ∃ x, wrds[k]? = some x := ⟨_, List.getElem?_eq_getElem (by simp [wrds]; omega)⟩
      have hxw : x ∈ wrds := List.mem_of_getElem? hx
      have hbk := hbw.mod hm (fun h => h)
      have x0 := hbk.cell (k * 4 + 0)
      have x1 := hbk.cell (k * 4 + 1)
      have x2 := hbk.cell (k * 4 + 2)
      have x3 := hbk.cell (k * 4 + 3)
      rw [flatMap_get4 _ _ _ _ hx (by omega)] at x0 x1 x2 x3
      simp [wcell] at x0 x1 x2 x3
      have HX := Lib.hid hx
      have HXW := Lib.hid hxw
      have c0r := hm.cell c0 (fun h => h)
      have hmA : Mod NoB wr (wr.alloc (.cells #[.string ⟨x.name.toArray⟩, .int .u8 (x.sv : Int), .int .u8 (x.sub : Int), .int .i64 (x.n : Int)] 59)) := (Mod.refl _ _).alloc _
      have c0a := hmA.cell c0r (fun h => h)
      clear hx hxw
      have hkd : decide ((k : Int) < 18) = true := by simpa using by omega
      go_wp2_with fail
      by_cases hname : x.name = p0.data.toList
      · have hd1 : decide (x.name = p0.toList) = true := by rw [Go.ByteArray.toList_eq]; simpa using hname
        have hd1'' : (x.name == p0.toList) = true := by rw [Go.ByteArray.toList_eq, ← hname]; simp
        have hd1' : (x.name != p0.toList) = false := by rw [Go.ByteArray.toList_eq, ← hname]; simp
        by_cases hnum : x.n = m
        · have hd2 : ((x.n : Int) != (m : Int)) = false := by rw [hnum]; simp
          have HB := Lib.hid (show ∀ ns, numsL (bytesOf pt) = some ns → sayS s.data.toList = some (x.sv, x.sub, ns) from fun ns hns => sayS_word HSPL.out hns HXW.out (by have := numsL_length hns; simp [bytesOf] at this; simp [byName, hname, hnum, this, HM.out]))
          clear hname hnum
          have hsl := HSL.out
          go_quiet (fail)
          go_wp2_with fail
          clear hsl
          obtain ⟨wd, hwd⟩ : ∃ wd, wd = (wr.alloc (.cells #[.string ⟨x.name.toArray⟩, .int .u8 (x.sv : Int), .int .u8 (x.sub : Int), .int .i64 (x.n : Int)] 59)).drewN nq := ⟨_, rfl⟩
          have hmd : Mod NoB wr wd := by rw [hwd]; exact hmA.drewN nq
          rw [← hwd]
          obtain ⟨qc, hqc⟩ : ∃ qc, qc = wd.heap.size := ⟨_, rfl⟩
          have hqcs : wr.heap.size + 1 = qc := by rw [hqc, hwd]; simp
          obtain ⟨wc, hwc⟩ : ∃ wc, wc = wd.alloc (.cells #[.int .u8 9, .int .u8 (x.sv : Int), .int .u8 (x.sub : Int), .int .u16 0, .slice none 0 0] 32) := ⟨_, rfl⟩
          have hbc : Blk wc qc 32 [.int .u8 9, .int .u8 (x.sv : Int), .int .u8 (x.sub : Int), .int .u16 0, .slice none 0 0] := by rw [hwc, hqc]; exact Blk.new wd _ _
          have hmc : Mod NoB wr wc := by rw [hwc]; exact hmd.alloc _
          rw [← hwc]
          simp only [hqcs]
          have h2c : Mod NoB w2 wc := hm.trans hmc
          have hqq : ¬ w.heap.size = qc := by have := hq2.lt; have := hm.size; omega
          have hgq : ¬ g = qc := by have := own_lt ho2 (g := g) rfl; have := hm.size; omega
          have hwq : w.heap.size ≤ qc := by have := h02.size; have := hm.size; omega
          have hcs : qc < wc.heap.size := hbc.lt
          clear hwd hqc hwc hqcs hmd hmc x0 x1 x2 x3 c0r c0a hbk
          obtain ⟨wo, rfl⟩ : ∃ wo : World, wo = wr := ⟨_, rfl⟩
          go_loopw [41] (fun i wr => ∃ (j : Nat) (ns : List Nat) (v : Value), j ≤ m ∧ i = .int .i64 j ∧ ns.length = j ∧ numsL (bytesOf (pt.take j)) = some ns ∧ Blk wr qc 32 [.int .u8 9, .int .u8 (x.sv : Int), .int .u8 (x.sub : Int), .int .u16 0, v] ∧ wr.ownsRow wc.heap.size 5 1 v j (bv (ints ns)) ∧ Mod (fun z => z = qc) wc wr) (fun i _ => m - (intOf i).toNat)
          case atStart => exact ⟨0, [], .slice none 0 0, Nat.zero_le _, rfl, rfl, rfl, hbc, World.ownsRow_nil _ _ _ _, Mod.refl _ _⟩
          case round =>
            obtain ⟨j, ns, v, hj, rfl, hnl, hns, hbv, hov, hml⟩ := hrel
            have HNL := Lib.hid hnl
            have HNS := Lib.hid hns
            have h2l : Mod NoB w w2 := h02
            clear hnl hns
            obtain ⟨da, dc, rfl⟩ := own_slice hov
            have hq2l := (hq2.mod h2c (fun h => h)).mod hml hqq
            by_cases hjm : j < m
            · have hjl : j < pt.length := by rw [← HM.out]; exact hjm
              obtain ⟨p, hp⟩ : ∃ p, pt[j]? = some p := ⟨_, List.getElem?_eq_getElem hjl⟩
              have cp := hml.cell (h2c.cell (hm2.cell (HC.out j p hp) (fun h => h)) (fun h => h)) hgq
              have hps := HPART.out p (List.mem_of_getElem? hp)
              have HP := Lib.hid hp
              clear hp hjl
              go_wp2_with fail
              refine (rnumber_walk wr p hps).mono ?_
              rintro e w5 ⟨rfl, hw5⟩
              obtain rfl := hw5.symm
              cases hnum : numL p.data.toList with
              | none =>
                have hr : numR p.data.toList = -1 := by unfold numR; rw [hnum]
                have HN := Lib.hid (sayS_nums HSPL.out (numsL_stop (bytesOf_get HP.out) hnum))
                rw [hr]
                have q0 := hq2l.cell 0
                have q1 := hq2l.cell 1
                have q2 := hq2l.cell 2
                have q3 := hq2l.cell 3
                have q4 := hq2l.cell 4
                have f0 := hq2l.frozen 0
                have f1 := hq2l.frozen 1
                have f2 := hq2l.frozen 2
                have f3 := hq2l.frozen 3
                have f4 := hq2l.frozen 4
                simp at q0 q1 q2 q3 q4
                clear hnum hr
                go_wp2_with fail
                refine rsay_ret 0 0 0 none 0 0 false hq2l rfl rfl rfl (rsayPost_none HN.out ?_)
                exact (((h02.trans h2c).trans' hml (fun k' hk' e => by omega)).trans' (st5_mod _ _ _ _ _ _ _) (fun k' hk' e => by omega))
              | some z =>
                have hr : numR p.data.toList = (z : Int) := by unfold numR; rw [hnum]
                have hz := (numL_inv hnum).1
                have hw : IntKind.u8.wrap (z : Int) = (z : Int) := by rw [IntKind.wrap]; simp [IntKind.signed, IntKind.bits]; omega
                have hz0 : ¬ ((z : Int) < 0) := by omega
                rw [hr]
                have e4 := hbv.cell 4
                simp at e4
                have hbW := Blk.new wr 5 [Value.int .u8 (z : Int)]
                have hmW : Mod NoB wr (wr.alloc (.cells [Value.int .u8 (z : Int)].toArray 5)) := (Mod.refl _ _).alloc _
                have hovW := hmW.own hov (fun _ _ h => h)
                have hbvW := hbv.mod hmW (fun h => h)
                obtain ⟨v', w6, hrun, hown6, hm6, hb6, hn6⟩ := append_own (P := Tryd.prog) Tryd.elemU8 hovW (m := 1) (by simp) (hbW.arr 0) (fun u hu => by simp at hu; subst hu; rfl) (by unfold maxLen; omega) (by omega) (by have := hml.size; have := hmW.size; omega)
                obtain ⟨a6, c6, rfl⟩ := own_slice hown6
                have hbv6 := hbvW.mod hm6 (own_ne_blk hovW hbvW (by decide))
                have e6 := hbv6.cell 4
                have f6 := hbv6.frozen 4
                simp at e6
                have hset : Mod (· = qc) w6 (w6.setCell ⟨qc, 4, none⟩ (.slice a6 (j + 1) c6)) := (Mod.refl _ _).setCell _ (fun _ => rfl)
                have hbv7 := hbv6.setCell 4 (.slice a6 (j + 1) c6)
                have hown7 : (w6.setCell ⟨qc, 4, none⟩ (.slice a6 (j + 1) c6)).ownsRow wc.heap.size 5 1 (.slice a6 (j + 1) c6) (j + 1) (bv (ints (ns ++ [z]))) := by
                  have : w6.ownsRow wc.heap.size 5 1 (.slice a6 (j + 1) c6) (j + 1) (bv (ints (ns ++ [z]))) := by simpa [ints, bv] using hown6
                  exact hset.own this (fun g hg e => own_ne_blk this hbv6 (by decide) (by rw [hg, e]))
                have hm7 : Mod (fun z => z = qc) wc (w6.setCell ⟨qc, 4, none⟩ (.slice a6 (j + 1) c6)) :=
                  ((hml.trans' hmW (fun _ _ h => h.elim)).trans' hm6 (fun k' hk' e => by have := (hov.lt k' e).1; omega)).trans' hset (fun _ _ h => h)
                have HNS2 := Lib.hid (show numsL (bytesOf (pt.take (j + 1))) = some (ns ++ [z]) by rw [bytesOf_take_succ HP.out]; exact numsL_snoc HNS.out hnum)
                have H7 := Lib.hid hown7
                have HB7 := Lib.hid hbv7
                clear hnum hr hbW hown6 hb6 hn6 hset hown7 hbv7
                go_wp2_with (at_builtin; refine wpList_of_run rfl (exec_builtin2 (b := .append) (fun _ _ _ _ => rfl) _ _ 23 23 rfl rfl rfl (hrun _ _)) ?_)
                go_roundw
                case rel => exact ⟨j + 1, ns ++ [z], _, by omega, by go_num, by simp [HNL.out], HNS2.out, HB7.out, H7.out, hm7⟩
                case measure => simp [intOf]; omega
            · obtain rfl : j = m := by omega
              have htk : pt.take j = pt := List.take_of_length_le (by rw [← HM.out]; exact Nat.le_refl _)
              have hns := HNS.out
              rw [htk] at hns
              have HW := Lib.hid (HB.out ns hns)
              have q0 := hq2l.cell 0
              have q1 := hq2l.cell 1
              have q2 := hq2l.cell 2
              have q3 := hq2l.cell 3
              have q4 := hq2l.cell 4
              have f0 := hq2l.frozen 0
              have f1 := hq2l.frozen 1
              have f2 := hq2l.frozen 2
              have f3 := hq2l.frozen 3
              have f4 := hq2l.frozen 4
              have b0 := hbv.cell 0
              have b1 := hbv.cell 1
              have b2 := hbv.cell 2
              have b3 := hbv.cell 3
              have b4 := hbv.cell 4
              simp at q0 q1 q2 q3 q4 b0 b1 b2 b3 b4
              clear htk hns
              go_wp2_with fail
              refine rsay_ret 9 x.sv x.sub da j dc true hq2l rfl rfl rfl ⟨9, x.sv, x.sub, true, da, j, dc, ints ns, rfl, ?_, ?_, ?_, ?_⟩
              · exact (st5_mod _ _ _ _ _ _ _).own (own_mono hov (by omega)) (fun g hg e => own_ne_blk hov hq2l (by decide) (by rw [hg, e]))
              · rw [← HNL.out]; simp [ints]
              · unfold RSayIs
                rw [HW.out]
                exact ⟨rfl, rfl, rfl, rfl, rfl⟩
              · exact (((h02.trans h2c).trans' hml (fun k' hk' e => by omega)).trans' (st5_mod _ _ _ _ _ _ _) (fun k' hk' e => by omega))
        · have hd2 : ((x.n : Int) != (m : Int)) = true := by rw [bne_iff_ne]; omega
          have HB := Lib.hid (show byName p0.data.toList m x = false by simp [byName, hnum])
          clear hname hnum
          go_quiet (fail)
          go_wp2_with fail
          go_roundw
          case rel =>
            refine ⟨k + 1, by omega, by go_num, fun j y hj hy => ?_, (hm.trans hmA).drewN _⟩
            by_cases hjk : j < k
            · exact HNO.out j y hjk hy
            · obtain rfl : j = k := by omega
              rw [HX.out] at hy
              cases hy
              exact HB.out
          case measure => simp [intOf]; omega
      · have hd1 : decide (x.name = p0.toList) = false := by rw [Go.ByteArray.toList_eq]; simpa using hname
        have hd1'' : (x.name == p0.toList) = false := by rw [Go.ByteArray.toList_eq, beq_eq_false_iff_ne]; exact hname
        have hd1' : (x.name != p0.toList) = true := by rw [Go.ByteArray.toList_eq, bne_iff_ne]; exact hname
        have HB := Lib.hid (show byName p0.data.toList m x = false by simp [byName, hname])
        clear hname
        go_quiet (fail)
        go_wp2_with fail
        go_roundw
        case rel =>
          refine ⟨k + 1, by omega, by go_num, fun j y hj hy => ?_, (hm.trans hmA).drewN _⟩
          by_cases hjk : j < k
          · exact HNO.out j y hjk hy
          · obtain rfl : j = k := by omega
            rw [HX.out] at hy
            cases hy
            exact HB.out
        case measure => simp [intOf]; omega
    · obtain rfl : k = 18 := by omega
      have HN := Lib.hid (sayS_nobody HSPL.out (fun x hx => by
        obtain ⟨j, hj⟩ := List.mem_iff_getElem?.1 hx
        have hj18 : j < 18 := by have := (List.getElem?_eq_some_iff.1 hj).1; simpa [wrds] using this
        have := HNO.out j x hj18 hj
        rw [HM.out] at this
        simpa [bytesOf] using this))
      have hqb := hq2.mod hm (fun h => h)
      have q0 := hqb.cell 0
      have q1 := hqb.cell 1
      have q2 := hqb.cell 2
      have q3 := hqb.cell 3
      have q4 := hqb.cell 4
      have f0 := hqb.frozen 0
      have f1 := hqb.frozen 1
      have f2 := hqb.frozen 2
      have f3 := hqb.frozen 3
      have f4 := hqb.frozen 4
      simp at q0 q1 q2 q3 q4
      go_wp2_with fail
      refine rsay_ret 0 0 0 none 0 0 false hqb rfl rfl rfl (rsayPost_none HN.out ?_)
      exact ((h02.trans hm).trans' (st5_mod _ _ _ _ _ _ _) (fun k' hk' e => by omega))
end Go.Proofs.YtjacllnmpenbmaaDoor
