/- The reference's Phrase. -/
import Derived.Test.YtjacllnmpenbmaaDoorGRSay
import Derived.Test.YtjacllnmpenbmaaDoorGSpace
namespace Go.Proofs.YtjacllnmpenbmaaDoor
open Go Go.RowKit

def rphr (sv sub : Nat) (ns : List Nat) : List UInt8 := (phrS sv sub ns).getD []
theorem phrS_here {sv sub : Nat} {ns : List Nat} {x : Wrd} (hx : x ∈ wrds) (h1 : x.sv = sv) (h2 : x.sub = sub) (h3 : x.n = ns.length) : rphr sv sub ns = numbersL x.name ns := by
  unfold rphr phrS
  cases hf : wrds.find? (byKind sv sub) with
  | none => exact absurd (by simp [byKind, h1, h2]) (List.find?_eq_none.1 hf x hx)
  | some y =>
    have hy := List.find?_some hf
    simp [byKind] at hy
    rw [wrds_kinds y (List.mem_of_find?_eq_some hf) x hx (by omega) (by omega)]
    simp [h3]
theorem phrS_nowhere {sv sub : Nat} {ns : List Nat} (h : ∀ x ∈ wrds, ¬ (x.sv = sv ∧ x.sub = sub ∧ x.n = ns.length)) : rphr sv sub ns = [] := by
  unfold rphr phrS
  cases hf : wrds.find? (byKind sv sub) with
  | none => rfl
  | some y =>
    have hy := List.find?_some hf
    simp [byKind] at hy
    simp only []
    rw [if_neg (fun h3 => h y (List.mem_of_find?_eq_some hf) ⟨hy.1, hy.2, h3⟩)]
    rfl

set_option maxHeartbeats 2000000 in
set_option maxRecDepth 20000 in
theorem rphrase_walk (w : World) (ak o : Int) (sv sub : Nat) (a : Option Addr) (c : Nat) (ns : List Nat) (n : Nat) (hn : ns.length = n) (hn' : n ≤ 1000) (hr : Rd w a (bv (ints ns))) (hns : ∀ x ∈ ns, x < 256) :
    Calls Tryd.prog 11 #[.agg #[.int .u8 ak, .int .u8 (sv : Int), .int .u8 (sub : Int), .int .u16 o, .slice a n c]] w fun e w' => e = .returned (.string (bs (rphr sv sub ns))) ∧ Mod NoB w w' := by
  obtain ⟨w0, hw0⟩ : ∃ w0, w0 = w.alloc (.cells #[.int .u8 ak, .int .u8 (sv : Int), .int .u8 (sub : Int), .int .u16 o, .slice a n c] 32) := ⟨_, rfl⟩
  have hm0 : Mod NoB w w0 := by rw [hw0]; exact (Mod.refl _ _).alloc _
  have hq0 : Blk w0 w.heap.size 32 [.int .u8 ak, .int .u8 (sv : Int), .int .u8 (sub : Int), .int .u16 o, .slice a n c] := by rw [hw0]; exact Blk.new w _ _
  obtain ⟨q, hq⟩ : ∃ q, q = w.heap.size := ⟨_, rfl⟩
  rw [← hq] at hq0
  have NP := Lib.hid (fun (w' : World) (l : List UInt8) (hl : l.length ≤ 100) (hm : Mod NoB w w') => numbers_walk w' l hl a c ns n hn hn' (hr.nob hm) hns)
  have HW0 := Lib.hid hw0
  have HQ := Lib.hid hq
  have HN := Lib.hid hn
  clear hw0 hq hn hr hns
  go_enter Tryd.func11, Tryd.ntmps11
  go_wp2_with fail
  rw [← HW0.out, ← HQ.out]
  refine (rwords_walk w0).mono ?_
  rintro e w2 ⟨rfl, hbw, hm2⟩
  have h02 := hm0.trans hm2
  have hq2 := hq0.mod hm2 (fun h => h)
  obtain ⟨wb, hwb⟩ : ∃ wb, wb = w0.heap.size := ⟨_, rfl⟩
  rw [← hwb] at hbw ⊢
  have HWB := Lib.hid hwb
  clear hwb hq0
  go_wp2_with fail
  go_loopw [7] (fun i wr => ∃ k : Nat, k ≤ 18 ∧ i = .int .i64 k ∧ (∀ (j : Nat) (x : Wrd), j < k → wrds[j]? = some x → ¬ (x.sv = sv ∧ x.sub = sub ∧ x.n = n)) ∧ Mod NoB w2 wr) (fun i _ => 18 - (intOf i).toNat)
  case atStart => exact ⟨0, by omega, rfl, fun j x hj => by omega, Mod.refl _ _⟩
  case round =>
    obtain ⟨k, hk, rfl, hno, hm⟩ := hrel
    have HNO := Lib.hid hno
    clear hno
    by_cases hlt : k < 18
    · obtain ⟨x, hx⟩ : ∃ x, wrds[k]? = some x := ⟨_, List.getElem?_eq_getElem (by simp [wrds]; omega)⟩
      have hxw : x ∈ wrds := List.mem_of_getElem? hx
      have hbk := hbw.mod hm (fun h => h)
      have x0 := hbk.cell (k * 4 + 0)
      have x1 := hbk.cell (k * 4 + 1)
      have x2 := hbk.cell (k * 4 + 2)
      have x3 := hbk.cell (k * 4 + 3)
      rw [flatMap_get4 _ _ _ _ hx (by omega)] at x0 x1 x2 x3
      simp [wcell] at x0 x1 x2 x3
      have HX := Lib.hid hx
      have HXW := Lib.hid hxw
      have hmA : Mod NoB wr (wr.alloc (.cells #[.string ⟨x.name.toArray⟩, .int .u8 (x.sv : Int), .int .u8 (x.sub : Int), .int .i64 (x.n : Int)] 59)) := (Mod.refl _ _).alloc _
      have hqa := (hq2.mod hm (fun h => h)).mod hmA (fun h => h)
      have c1 := hqa.cell 1
      have c2 := hqa.cell 2
      have c4 := hqa.cell 4
      simp at c1 c2 c4
      have NEXT := Lib.hid (fun (hne : ¬ (x.sv = sv ∧ x.sub = sub ∧ x.n = n)) => (show ∀ (j : Nat) (y : Wrd), j < k + 1 → wrds[j]? = some y → ¬ (y.sv = sv ∧ y.sub = sub ∧ y.n = n) from fun j y hj hy => by
        by_cases hjk : j < k
        · exact HNO.out j y hjk hy
        · obtain rfl : j = k := by omega
          rw [HX.out] at hy
          cases hy
          exact hne))
      have NPX := Lib.hid (fun w' hm => NP.out w' x.name (by have := (wrds_letters x HXW.out).2.2.1; omega) hm)
      clear hx hxw
      have hkd : decide ((k : Int) < 18) = true := by simpa using by omega
      by_cases h1 : x.sv = sv
      · have d1 : ((x.sv : Int) == (sv : Int)) = true := by rw [h1]; simp
        by_cases h2 : x.sub = sub
        · have d2 : ((x.sub : Int) == (sub : Int)) = true := by rw [h2]; simp
          by_cases h3 : x.n = n
          · have d3 : ((x.n : Int) == (n : Int)) = true := by rw [h3]; simp
            have HP := Lib.hid (phrS_here (ns := ns) HXW.out h1 h2 (by rw [HN.out, h3]))
            clear h1 h2 h3
            go_wp2_with fail
            refine (NPX.out _ ((h02.trans hm).trans hmA)).mono ?_
            rintro e w5 ⟨rfl, hm5⟩
            go_wp2_with fail
            go_ret
            exact ⟨by rw [HP.out]; rfl, ((h02.trans hm).trans hmA).trans hm5⟩
          · have d3 : ((x.n : Int) == (n : Int)) = false := by rw [beq_eq_false_iff_ne]; omega
            have NX := Lib.hid (NEXT.out (fun h => h3 h.2.2))
            clear h1 h2 h3
            go_wp2_with fail
            go_roundw
            case rel => exact ⟨k + 1, by omega, by go_num, NX.out, hm.trans hmA⟩
            case measure => simp [intOf]; omega
        · have d2 : ((x.sub : Int) == (sub : Int)) = false := by rw [beq_eq_false_iff_ne]; omega
          have NX := Lib.hid (NEXT.out (fun h => h2 h.2.1))
          clear h1 h2
          go_wp2_with fail
          go_roundw
          case rel => exact ⟨k + 1, by omega, by go_num, NX.out, hm.trans hmA⟩
          case measure => simp [intOf]; omega
      · have d1 : ((x.sv : Int) == (sv : Int)) = false := by rw [beq_eq_false_iff_ne]; omega
        have NX := Lib.hid (NEXT.out (fun h => h1 h.1))
        clear h1
        go_wp2_with fail
        go_roundw
        case rel => exact ⟨k + 1, by omega, by go_num, NX.out, hm.trans hmA⟩
        case measure => simp [intOf]; omega
    · obtain rfl : k = 18 := by omega
      have HP := Lib.hid (phrS_nowhere (sv := sv) (sub := sub) (ns := ns) (fun x hx => by
        obtain ⟨j, hj⟩ := List.mem_iff_getElem?.1 hx
        have hj18 : j < 18 := by have := (List.getElem?_eq_some_iff.1 hj).1; simpa [wrds] using this
        rw [HN.out]
        exact HNO.out j x hj18 hj))
      go_wp2_with fail
      go_ret
      exact ⟨by rw [HP.out]; rfl, h02.trans hm⟩
end Go.Proofs.YtjacllnmpenbmaaDoor
