/- The ground's spaced and the reference's numbers. -/
import Derived.Test.YtjacllnmpenbmaaDoorGDec
import Derived.Test.YtjacllnmpenbmaaDoorGSay
namespace Go.Proofs.YtjacllnmpenbmaaDoor
open Go Go.RowKit

theorem numbersL_snoc (s : List UInt8) (ns : List Nat) (n : Nat) : numbersL s (ns ++ [n]) = numbersL s ns ++ 32 :: Lib.decDigits n := by simp [numbersL]
theorem space_size {l : List UInt8} {ns : List Nat} {k z : Nat} (hl : l.length ≤ 100) (hn : ns.length ≤ 1000) (hns : ∀ n ∈ ns, n < 256) (hk : ns[k]? = some z) :
    ¬ 9223372036854775807 < (ByteArray.mk #[32]).size + (bs (Lib.decDigits z)).size ∧ ¬ 9223372036854775807 < (bs (numbersL l (ns.take k))).size + (ByteArray.mk #[32] ++ bs (Lib.decDigits z)).size ∧
    bs (numbersL l (ns.take k)) ++ (ByteArray.mk #[32] ++ bs (Lib.decDigits z)) = bs (numbersL l (ns.take (k + 1))) := by
  have hz := (dec_nospace z (hns z (List.mem_of_getElem? hk))).2
  have h1 : ByteArray.mk #[32] ++ bs (Lib.decDigits z) = bs (32 :: Lib.decDigits z) := bs_app [32] _
  have h2 := numbersL_length (ns.take k) l (fun n hn => hns n (List.mem_of_mem_take hn))
  have h3 : (ns.take k).length ≤ ns.length := by simp; omega
  have hkl := (List.getElem?_eq_some_iff.1 hk).1
  have ht : ns.take (k + 1) = ns.take k ++ [z] := by rw [List.take_add_one, hk]; rfl
  refine ⟨?_, ?_, ?_⟩
  · rw [bs_size]
    have : (ByteArray.mk #[32]).size = 1 := rfl
    omega
  · rw [h1, bs_size, bs_size]
    simp
    omega
  · rw [h1, bs_app, ht, numbersL_snoc]

set_option maxHeartbeats 1000000 in
theorem numbers_walk (w : World) (l : List UInt8) (hl : l.length ≤ 100) (a : Option Addr) (c : Nat) (ns : List Nat) (n : Nat) (hn : ns.length = n) (hn' : n ≤ 1000) (hr : Rd w a (bv (ints ns))) (hns : ∀ x ∈ ns, x < 256) :
    Calls Tryd.prog 21 #[.string (bs l), .slice a n c] w fun e w' => e = .returned (.string (bs (numbersL l ns))) ∧ Mod NoB w w' := by
  have HN := Lib.hid hn
  have HNS := Lib.hid hns
  have hfull : ns.take n = ns := List.take_of_length_le (by omega)
  have HF := Lib.hid hfull
  clear hn hns hfull
  go_enter Tryd.func21, Tryd.ntmps21
  go_wp2_with fail
  go_loopw [0, 9] (fun x i wr => ∃ k : Nat, k ≤ n ∧ i = .int .i64 k ∧ x = .string (bs (numbersL l (ns.take k))) ∧ Mod NoB w wr) (fun _ i _ => n - (intOf i).toNat)
  case atStart => exact ⟨0, Nat.zero_le _, rfl, by simp [numbersL], Mod.refl _ _⟩
  case round =>
    obtain ⟨k, hk, rfl, rfl, hm⟩ := hrel
    by_cases hlt : k < n
    · have hk1 : k < ns.length := by rw [HN.out]; exact hlt
      obtain ⟨z, hz⟩ : ∃ z, ns[k]? = some z := ⟨_, List.getElem?_eq_getElem hk1⟩
      have hg : (bv (ints ns))[k]? = some (.int .u8 (z : Int)) := by simp [bv, ints, hz]
      obtain ⟨b, o, rfl, hb, hc⟩ := (hr.nob hm).at_ hg
      obtain ⟨s1, s2, s3⟩ := space_size (l := l) (ns := ns) (k := k) hl (by rw [HN.out]; exact hn') HNS.out hz
      have h256 := HNS.out z (List.mem_of_getElem? hz)
      have S3 := Lib.hid s3
      have hw : IntKind.u64.wrap (z : Int) = (z : Int) := by rw [IntKind.wrap]; simp [IntKind.signed, IntKind.bits]; omega
      clear hz hg hk1 s3
      go_wp2_with fail
      refine (dec_walk z (by omega) wr).mono ?_
      rintro e w1 ⟨rfl, hw1⟩
      obtain rfl := hw1.symm
      go_wp2_with fail
      go_roundw
      case rel => exact ⟨k + 1, by omega, by go_num, by rw [← S3.out], hm⟩
      case measure => simp [intOf]; omega
    · obtain rfl : k = n := by omega
      go_wp2_with fail
      go_ret
      exact ⟨by rw [HF.out]; rfl, hm⟩

set_option maxHeartbeats 1000000 in
theorem spaced_walk (w : World) (hG : Glob w) (l : List UInt8) (hl : l.length ≤ 100) (a : Option Addr) (c : Nat) (ns : List Nat) (n : Nat) (hn : ns.length = n) (hn' : n ≤ 1000) (hr : Rd w a (bv (ints ns))) (hns : ∀ x ∈ ns, x < 256) :
    Calls Tryd.prog 20 #[.string (bs l), .slice a n c] w fun e w' => e = .returned (.string (bs (numbersL l ns))) ∧ Mod NoB w w' := by
  have HG := Lib.hid hG
  have HN := Lib.hid hn
  have HNS := Lib.hid hns
  have hfull : ns.take n = ns := List.take_of_length_le (by omega)
  have HF := Lib.hid hfull
  clear hn hns hfull hG
  go_enter Tryd.func20, Tryd.ntmps20
  go_wp2_with fail
  go_loopw [0, 9] (fun x i wr => ∃ k : Nat, k ≤ n ∧ i = .int .i64 k ∧ x = .string (bs (numbersL l (ns.take k))) ∧ Mod NoB w wr) (fun _ i _ => n - (intOf i).toNat)
  case atStart => exact ⟨0, Nat.zero_le _, rfl, by simp [numbersL], Mod.refl _ _⟩
  case round =>
    obtain ⟨k, hk, rfl, rfl, hm⟩ := hrel
    by_cases hlt : k < n
    · have hk1 : k < ns.length := by rw [HN.out]; exact hlt
      obtain ⟨z, hz⟩ : ∃ z, ns[k]? = some z := ⟨_, List.getElem?_eq_getElem hk1⟩
      have hg : (bv (ints ns))[k]? = some (.int .u8 (z : Int)) := by simp [bv, ints, hz]
      obtain ⟨b, o, rfl, hb, hc⟩ := (hr.nob hm).at_ hg
      obtain ⟨s1, s2, s3⟩ := space_size (l := l) (ns := ns) (k := k) hl (by rw [HN.out]; exact hn') HNS.out hz
      have h256 := HNS.out z (List.mem_of_getElem? hz)
      have S3 := Lib.hid s3
      have hit := itoa_walk wr (HG.out.nob hm) (z : Int) (by omega) (by omega)
      rw [Int.toNat_natCast] at hit
      have HIT := Lib.hid hit
      clear hz hg hk1 s3 hit
      go_wp2_with fail
      refine HIT.out.mono ?_
      rintro e w1 ⟨rfl, hm1⟩
      rw [show (⟨(Lib.decDigits z).toArray⟩ : ByteArray) = bs (Lib.decDigits z) from rfl]
      go_wp2_with fail
      go_roundw
      case rel => exact ⟨k + 1, by omega, by go_num, by rw [← S3.out], hm.trans hm1⟩
      case measure => simp [intOf]; omega
    · obtain rfl : k = n := by omega
      go_wp2_with fail
      go_ret
      exact ⟨by rw [HF.out]; rfl, hm⟩
end Go.Proofs.YtjacllnmpenbmaaDoor
