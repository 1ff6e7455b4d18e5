/- Text, Dec, the ground's spaced and the reference's numbers. -/
import Derived.Test.YtjacllnmpenbmaaDoorGSplit
import Derived.Test.YtjacllnmpenbmaaDoorBytes
import Derived.Lib.ItoaNum
namespace Go.Proofs.YtjacllnmpenbmaaDoor
open Go Go.RowKit

def bs (l : List UInt8) : ByteArray := ⟨l.toArray⟩
theorem bs_app (a b : List UInt8) : bs a ++ bs b = bs (a ++ b) := by
  apply ByteArray.ext
  simp [bs]
theorem bs_self (s : ByteArray) : bs s.data.toList = s := by simp [bs]
theorem bs_size (l : List UInt8) : (bs l).size = l.length := by simp [bs, ByteArray.size]
theorem dec_len : ∀ n : Nat, (Lib.decDigits n).length ≤ n / 10 + 1 := by
  intro n
  induction n using Nat.strongRecOn with
  | ind n ih =>
    by_cases h : n < 10
    · rw [Lib.decDigits_one h]; simp
    · rw [Lib.decDigits, dif_neg h]
      have := ih (n / 10) (by omega)
      simp
      omega
theorem bs_list (l : List UInt8) : (bs l).data.toList = l := by simp [bs]

set_option maxHeartbeats 1000000 in
theorem text_walk (w : World) (s : ByteArray) (m : Nat) (hm : m ≤ 1000) (hs : s.size ≤ 9223372036854775807) : Calls Tryd.prog 5 #[.string s, .int .i64 m] w fun e w' => ∃ t : ByteArray, e = .returned (.string t) ∧ t.size ≤ m ∧ w' = w := by
  by_cases h : s.size ≤ m
  · have h1 : min (s.size : Int) (m : Int) = (s.size : Int) := by omega
    go_enter Tryd.func5, Tryd.ntmps5
    go_wp2_with fail
    go_ret
    exact ⟨_, rfl, h, rfl⟩
  · have h1 : min (s.size : Int) (m : Int) = (m : Int) := by omega
    go_enter Tryd.func5, Tryd.ntmps5
    go_wp2_with fail
    go_ret
    exact ⟨_, rfl, by simp; omega, rfl⟩

set_option maxHeartbeats 1000000 in
theorem dec_walk : ∀ (n : Nat), n < 18446744073709551616 → ∀ w : World, Calls Tryd.prog 29 #[.int .u64 n] w fun e w' => e = .returned (.string (bs (Lib.decDigits n))) ∧ w' = w := by
  intro n
  induction n using Nat.strongRecOn with
  | ind n ih =>
    intro hn w
    by_cases h : n < 10
    · have hd : decide ((n : Int) < 10) = true := by simpa using by omega
      have HD := Lib.hid (Lib.decDigits_one h)
      have hp : (ByteArray.mk #[48, 49, 50, 51, 52, 53, 54, 55, 56, 57]).extract n (n + 1) = bs (Lib.decDigits n) := by
        rw [HD.out]
        have : n = 0 ∨ n = 1 ∨ n = 2 ∨ n = 3 ∨ n = 4 ∨ n = 5 ∨ n = 6 ∨ n = 7 ∨ n = 8 ∨ n = 9 := by omega
        rcases this with rfl | rfl | rfl | rfl | rfl | rfl | rfl | rfl | rfl | rfl <;> rfl
      have HP := Lib.hid hp
      clear hp ih
      go_enter Tryd.func29, Tryd.ntmps29
      go_wp2_with fail
      go_ret
      exact ⟨by rw [← HP.out]; rfl, rfl⟩
    · have hd : decide ((n : Int) < 10) = false := by simpa using by omega
      obtain ⟨q, hq⟩ : ∃ q, q = n / 10 := ⟨_, rfl⟩
      obtain ⟨r, hr⟩ : ∃ r, r = n % 10 := ⟨_, rfl⟩
      have c1 := ih q (by omega) (by omega) w
      have c2 := ih r (by omega) (by omega) w
      have HD := Lib.hid (show Lib.decDigits n = Lib.decDigits q ++ Lib.decDigits r by
        rw [Lib.decDigits, dif_neg h, hq, Lib.decDigits_one (show r < 10 by omega), hr])
      have C1 := Lib.hid c1
      have C2 := Lib.hid c2
      have e1 : (n : Int) / 10 = (q : Int) := by omega
      have e2 : (n : Int) % 10 = (r : Int) := by omega
      have hsz : ¬ 9223372036854775807 < (bs (Lib.decDigits q)).size + (bs (Lib.decDigits r)).size := by
        rw [bs_size, bs_size]
        have := dec_len q
        have := dec_len r
        omega
      clear c1 c2 ih hq hr
      go_enter Tryd.func29, Tryd.ntmps29
      go_wp2_with fail
      refine C1.out.mono ?_
      rintro e w1 ⟨rfl, hw1⟩
      obtain rfl := hw1.symm
      go_wp2_with fail
      refine C2.out.mono ?_
      rintro e w1 ⟨rfl, hw1⟩
      obtain rfl := hw1.symm
      go_wp2_with fail
      go_ret
      exact ⟨by rw [HD.out, ← bs_app]; rfl, rfl⟩
end Go.Proofs.YtjacllnmpenbmaaDoor
