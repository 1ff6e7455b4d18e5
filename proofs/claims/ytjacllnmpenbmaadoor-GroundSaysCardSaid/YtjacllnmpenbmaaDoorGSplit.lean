/- The reference's Split at a space. -/
import Derived.Test.YtjacllnmpenbmaaDoorGNum
namespace Go.Proofs.YtjacllnmpenbmaaDoor
open Go Go.RowKit

theorem Tryd.infoStr : (Tryd.prog.info? 9).map (fun i => (i.zero, i.size, i.bytes)) = some (some (.string ByteArray.empty), 1, 16) := by kernel_rfl
theorem Tryd.elemStr : ElemT Tryd.prog 45 9 1 16 := ElemT.mk' Tryd.infoStr Tryd.underlying45 (by omega) rfl

def bytesOf (ps : List ByteArray) : List (List UInt8) := ps.map (·.data.toList)
/-- What has been cut when i stands at k, the next part beginning at f. -/
def SplitAt (l : List UInt8) (ps : List ByteArray) (f k : Nat) : Prop :=
  ps.length ≤ k ∧ ((k ≤ l.length ∧ f ≤ k ∧ (∀ j, f ≤ j → j < k → l[j]? ≠ some 32) ∧ bytesOf ps ++ splitL (l.drop f) = splitL l) ∨ (k = l.length + 1 ∧ bytesOf ps = splitL l))
theorem splitAt_zero (l : List UInt8) : SplitAt l [] 0 0 := ⟨Nat.le_refl _, .inl ⟨Nat.zero_le _, Nat.le_refl _, fun j h h' => by omega, rfl⟩⟩
theorem splitAt_skip {l : List UInt8} {ps : List ByteArray} {f k : Nat} (h : SplitAt l ps f k) (hk : k < l.length) (hne : l[k]? ≠ some 32) : SplitAt l ps f (k + 1) := by
  obtain ⟨h0, h | h⟩ := h
  · refine ⟨by omega, .inl ⟨by omega, by omega, fun j h1 h2 => ?_, h.2.2.2⟩⟩
    by_cases hjk : j < k
    · exact h.2.2.1 j h1 hjk
    · obtain rfl : j = k := by omega
      exact hne
  · omega
theorem no32 {l : List UInt8} {f k : Nat} (h : ∀ j, f ≤ j → j < k → l[j]? ≠ some 32) : (32 : UInt8) ∉ (l.drop f).take (k - f) := by
  intro hm
  obtain ⟨j, hj⟩ := List.mem_iff_getElem?.1 hm
  rw [List.getElem?_take] at hj
  split at hj
  · rw [List.getElem?_drop] at hj
    exact h (f + j) (by omega) (by omega) hj
  · cases hj
theorem extract_bytes (s : ByteArray) (f k : Nat) : (s.extract f k).data.toList = (s.data.toList.drop f).take (k - f) := by
  rw [Lib.extract_data]
theorem splitAt_cut {s : ByteArray} {ps : List ByteArray} {f k : Nat} (h : SplitAt s.data.toList ps f k) (hk : k < s.data.toList.length) (he : s.data.toList[k]? = some 32) : SplitAt s.data.toList (ps ++ [s.extract f k]) (k + 1) (k + 1) := by
  obtain ⟨h0, h | h⟩ := h
  · refine ⟨by simp; omega, .inl ⟨by omega, Nat.le_refl _, fun j h1 h2 => by omega, ?_⟩⟩
    rw [← h.2.2.2]
    unfold bytesOf
    rw [List.map_append, List.append_assoc]
    congr 1
    rw [List.map_cons, List.map_nil, extract_bytes]
    obtain ⟨hlt, hev⟩ := List.getElem?_eq_some_iff.1 he
    have hsp : s.data.toList.drop f = (s.data.toList.drop f).take (k - f) ++ 32 :: s.data.toList.drop (k + 1) := by
      conv => lhs; rw [← List.take_append_drop (k - f) (s.data.toList.drop f)]
      rw [List.drop_drop, show f + (k - f) = k by omega, List.drop_eq_getElem_cons hlt, hev]
    conv => rhs; rw [hsp]
    rw [splitL_app _ _ (no32 h.2.2.1)]
    rfl
  · omega
theorem splitAt_last {s : ByteArray} {ps : List ByteArray} {f k : Nat} (h : SplitAt s.data.toList ps f k) (hk : k = s.data.toList.length) : SplitAt s.data.toList (ps ++ [s.extract f k]) (k + 1) (k + 1) := by
  obtain ⟨h0, h | h⟩ := h
  · refine ⟨by simp; omega, .inr ⟨by omega, ?_⟩⟩
    rw [← h.2.2.2]
    unfold bytesOf
    rw [List.map_append]
    congr 1
    rw [List.map_cons, List.map_nil, extract_bytes]
    have h1 := no32 h.2.2.1
    have h2 : (s.data.toList.drop f).take (k - f) = s.data.toList.drop f := List.take_of_length_le (by simp; simp at hk; omega)
    rw [h2] at h1 ⊢
    rw [splitL_none _ h1]
  · omega
theorem splitAt_end {l : List UInt8} {ps : List ByteArray} {f k : Nat} (h : SplitAt l ps f k) (hk : l.length < k) : bytesOf ps = splitL l := by
  obtain ⟨h0, h | h⟩ := h
  · omega
  · exact h.2
theorem splitAt_le {l : List UInt8} {ps : List ByteArray} {f k : Nat} (h : SplitAt l ps f k) (hk : k ≤ l.length) : f ≤ k := by
  obtain ⟨h0, h | h⟩ := h
  · exact h.2.1
  · omega

set_option maxHeartbeats 1000000 in
theorem rsplit_walk (w : World) (s : ByteArray) (hs : s.size ≤ 1000) : Calls Tryd.prog 17 #[.string s, .int .u8 32] w fun e w' => ∃ a n c ps, e = .returned (.slice a n c) ∧ n = ps.length ∧ w'.ownsRow w.heap.size 9 1 (.slice a n c) n (ps.map Value.string) ∧ bytesOf ps = splitL s.data.toList ∧ Mod NoB w w' := by
  have HL := Lib.hid (show s.data.toList.length = s.size by simp)
  go_enter Tryd.func17, Tryd.ntmps17
  go_wp2_with fail
  go_loopw [5, 6, 7] (fun q fr i wr => ∃ (k f : Nat) (ps : List ByteArray), k ≤ s.size + 1 ∧ i = .int .i64 k ∧ fr = .int .i64 f ∧ SplitAt s.data.toList ps f k ∧ wr.ownsRow w.heap.size 9 1 q ps.length (ps.map Value.string) ∧ Mod NoB w wr) (fun _ _ i _ => s.size + 1 - (intOf i).toNat)
  case atStart => exact ⟨0, 0, [], Nat.zero_le _, rfl, rfl, splitAt_zero _, World.ownsRow_nil _ _ _ _, Mod.refl _ _⟩
  case round =>
    obtain ⟨k, f, ps, hk, rfl, rfl, hat, hq, hm⟩ := hrel
    have HAT := Lib.hid hat
    have hpl : ps.length ≤ k := hat.1
    clear hat
    by_cases hlt : k ≤ s.size
    · have hfk : f ≤ k := splitAt_le HAT.out (by rw [HL.out]; exact hlt)
      have hbW := Blk.new wr 9 [Value.string (s.extract f k)]
      have hmW : Mod NoB wr (wr.alloc (.cells [Value.string (s.extract f k)].toArray 9)) := (Mod.refl _ _).alloc _
      obtain ⟨v', w3, hrun, hown3, hm3, hb3, hn3⟩ := append_own (P := Tryd.prog) Tryd.elemStr (hmW.own hq (fun _ _ h => h)) (m := 1) (by simp) (hbW.arr 0) (fun u hu => by simp at hu; subst hu; rfl) (by unfold maxLen; omega) (by omega) (by have := hm.size; have := hmW.size; omega)
      have hm4 : Mod NoB w w3 := (hm.trans hmW).trans' hm3 (fun k' hk' e => by have := (hq.lt k' e).1; omega)
      have hown4 : w3.ownsRow w.heap.size 9 1 v' (ps ++ [s.extract f k]).length ((ps ++ [s.extract f k]).map Value.string) := by
        rw [List.length_append, List.map_append]; exact hown3
      clear hown3 hm3 hb3 hn3 hbW
      by_cases hend : k = s.size
      · have hcut := splitAt_last HAT.out (by rw [HL.out]; exact hend)
        have HCUT := Lib.hid hcut
        have hb : ((k : Int) == (s.size : Int)) = true := by simp [hend]
        have hkk : k ≤ s.size := hlt
        clear hcut
        have HE := Lib.hid hend
        clear hend
        go_wp2_with (at_builtin; refine wpList_of_run rfl (exec_builtin2 (b := .append) (fun _ _ _ _ => rfl) _ _ 45 45 rfl rfl rfl (hrun _ _)) ?_)
        go_roundw
        case rel => exact ⟨k + 1, k + 1, ps ++ [s.extract f k], by omega, by go_num, by go_num, HCUT.out, hown4, hm4⟩
        case measure => simp [intOf]; omega
      · have hks : k < s.size := by omega
        have hkd : k < s.data.toList.length := by rw [HL.out]; exact hks
        have hb : ((k : Int) == (s.size : Int)) = false := by simp; omega
        have hget : s.data.toList[k]? = some s[k] := Lib.data_getElem? s k hks
        obtain ⟨c, hc⟩ : ∃ c, c = s[k] := ⟨_, rfl⟩
        rw [← hc] at hget
        by_cases h32 : c = 32
        · have HCUT := Lib.hid (splitAt_cut HAT.out hkd (by rw [hget, h32]))
          have hb2 : ((s[k].toNat : Int) == 32) = true := by rw [← hc, h32]; rfl
          clear hget hc h32 hend
          go_wp2_with (at_builtin; refine wpList_of_run rfl (exec_builtin2 (b := .append) (fun _ _ _ _ => rfl) _ _ 45 45 rfl rfl rfl (hrun _ _)) ?_)
          go_roundw
          case rel => exact ⟨k + 1, k + 1, ps ++ [s.extract f k], by omega, by go_num, by go_num, HCUT.out, hown4, hm4⟩
          case measure => simp [intOf]; omega
        · have HSK := Lib.hid (splitAt_skip HAT.out hkd (by rw [hget]; exact fun e => h32 (Option.some.inj e)))
          have hb2 : ((s[k].toNat : Int) == 32) = false := by
            rw [← hc, beq_eq_false_iff_ne]
            intro e
            exact h32 (UInt8.toNat_inj.1 (by have : (32 : UInt8).toNat = 32 := rfl; omega))
          clear hget hc h32 hend hrun hown4 hm4
          go_wp2_with fail
          go_roundw
          case rel => exact ⟨k + 1, f, ps, by omega, by go_num, rfl, HSK.out, hq, hm⟩
          case measure => simp [intOf]; omega
    · have HEND := Lib.hid (splitAt_end HAT.out (by rw [HL.out]; omega))
      obtain ⟨a', c', rfl⟩ := own_slice hq
      go_wp2_with fail
      go_ret
      exact ⟨a', ps.length, c', ps, rfl, rfl, hq, HEND.out, hm⟩
end Go.Proofs.YtjacllnmpenbmaaDoor
