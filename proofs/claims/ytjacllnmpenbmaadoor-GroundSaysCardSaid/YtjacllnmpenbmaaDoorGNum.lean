/- The ground's number, and the reference's. -/
import Derived.Test.YtjacllnmpenbmaaDoorGlue
namespace Go.Proofs.YtjacllnmpenbmaaDoor
open Go Go.RowKit

/-- What number answers. -/
def NumPost (l : List UInt8) (w : World) (e : Ending) (w' : World) : Prop := ∃ (b : Int) (ok : Bool), e = .returned (.tuple #[.int .u8 b, .bool ok]) ∧ (∀ n, numL l = some n → ok = true ∧ b = n) ∧ (numL l = none → ok = false) ∧ Mod NoB w w'
theorem numG_ok {l : List UInt8} {v : Int} (h : Lib.atoiAll l = .ok v) (h0 : 0 ≤ v) (h1 : v ≤ 255) (h2 : Lib.decDigits v.toNat = l) : numL l = some v.toNat := by
  rw [← numG_numL]
  unfold numG
  rw [h]
  simp only []
  rw [if_pos ⟨h0, h1, by unfold Lib.itoa; rw [if_neg (by omega), h2]⟩]
theorem numG_no {l : List UInt8} {v : Int} (h : Lib.atoiAll l = .ok v) (h0 : v < 0 ∨ 255 < v ∨ Lib.decDigits v.toNat ≠ l) : numL l = none := by
  rw [← numG_numL]
  unfold numG
  rw [h]
  simp only []
  rw [if_neg]
  rintro ⟨a, b, c⟩
  unfold Lib.itoa at c
  rw [if_neg (by omega)] at c
  rcases h0 with h | h | h
  · omega
  · omega
  · exact h c
theorem numG_bad {l : List UInt8} (h : ∀ u, Lib.atoiAll l ≠ .ok u) : numL l = none := by
  rw [← numG_numL]
  unfold numG
  split
  · rename_i v hv; exact absurd hv (h v)
  · rfl

set_option maxHeartbeats 1000000 in
theorem number_walk (w : World) (hg : Glob w) (s : ByteArray) (hs : s.size ≤ 1000) : Calls Tryd.prog 15 #[.string s] w (NumPost s.data.toList w) := by
  have HG := Lib.hid hg
  clear hg
  go_enter Tryd.func15, Tryd.ntmps15
  go_wp2_with fail
  refine (atoi_walk w HG.out s hs).mono ?_
  rintro e w1 ⟨v, err, rfl, hv, hm⟩
  rcases hv with ⟨rfl, hv⟩ | ⟨⟨t, p, rfl⟩, hv⟩
  · have HV := Lib.hid hv
    clear hv
    by_cases h0 : v < 0
    · have HN := Lib.hid (numG_no HV.out (.inl h0))
      have hb : decide (0 ≤ v) = false := by simp; omega
      go_wp2_with fail
      go_ret2
      refine ⟨_, _, rfl, ?_, fun _ => rfl, hm⟩
      intro n hn; rw [HN.out] at hn; cases hn
    · have hb : decide (0 ≤ v) = true := by simp; omega
      by_cases h1 : 255 < v
      · have HN := Lib.hid (numG_no HV.out (.inr (.inl h1)))
        have hb1 : decide (v ≤ 255) = false := by simp; omega
        go_wp2_with fail
        go_ret2
        refine ⟨_, _, rfl, ?_, fun _ => rfl, hm⟩
        intro n hn; rw [HN.out] at hn; cases hn
      · have hb1 : decide (v ≤ 255) = true := by simp; omega
        obtain ⟨n, rfl⟩ := Int.eq_ofNat_of_zero_le (show 0 ≤ v by omega)
        have hit := itoa_walk w1 (HG.out.nob hm) (n : Int) (by omega) (by omega)
        rw [Int.toNat_natCast] at hit
        have HIT := Lib.hid hit
        clear hit
        have hw : IntKind.u8.wrap (n : Int) = (n : Int) := by rw [IntKind.wrap]; simp [IntKind.signed, IntKind.bits]; omega
        go_wp2_with fail
        refine HIT.out.mono ?_
        rintro e w2 ⟨rfl, hm2⟩
        by_cases h2 : Lib.decDigits n = s.data.toList
        · have HN := Lib.hid (numG_ok HV.out (by omega) (by omega) (by rw [Int.toNat_natCast]; exact h2))
          have H2 := Lib.hid (show Lib.decDigits n = s.toList by rw [Go.ByteArray.toList_eq]; exact h2)
          clear h2
          go_wp2_with fail
          go_ret2
          refine ⟨_, _, rfl, fun m hm' => ⟨?_, ?_⟩, fun h => ?_, hm.trans hm2⟩
          · simpa using H2.out
          · rw [HN.out] at hm'; have := Option.some.inj hm'; omega
          · rw [HN.out] at h; cases h
        · have HN := Lib.hid (numG_no HV.out (.inr (.inr (by rw [Int.toNat_natCast]; exact h2))))
          have H2 := Lib.hid (show ¬ Lib.decDigits n = s.toList by rw [Go.ByteArray.toList_eq]; exact h2)
          clear h2
          go_wp2_with fail
          go_ret2
          refine ⟨_, _, rfl, fun m hm' => ?_, fun h => ?_, hm.trans hm2⟩
          · rw [HN.out] at hm'; cases hm'
          · simpa using H2.out
  · have HN := Lib.hid (numG_bad hv)
    clear hv
    go_wp2_with fail
    go_ret2
    refine ⟨_, _, rfl, ?_, fun _ => rfl, hm⟩
    intro n hn; rw [HN.out] at hn; cases hn

/-- The value of digits. -/
def dv (l : List UInt8) : Nat := l.foldl (fun n c => 10 * n + (c.toNat - 48)) 0
def dig (c : UInt8) : Bool := 48 ≤ c && c ≤ 57
theorem dv_snoc (l : List UInt8) (c : UInt8) : dv (l ++ [c]) = 10 * dv l + (c.toNat - 48) := by simp [dv]
theorem dig_iff (c : UInt8) : dig c = true ↔ 48 ≤ c.toNat ∧ c.toNat ≤ 57 := by simp [dig, UInt8.le_iff_toNat_le]
theorem dv_lt : ∀ (k : Nat) (l : List UInt8), l.length = k → l.all dig = true → dv l < 10 ^ k := by
  intro k
  induction k with
  | zero => intro l h _; rw [List.eq_nil_of_length_eq_zero h]; decide
  | succ k ih =>
    intro l h hd
    have hne : l ≠ [] := by rintro rfl; simp at h
    obtain ⟨l', c, rfl⟩ : ∃ l' c, l = l' ++ [c] := ⟨l.dropLast, l.getLast hne, (List.dropLast_concat_getLast hne).symm⟩
    simp at h hd
    have h1 := ih l' h (by rw [List.all_eq_true]; exact hd.1)
    have h2 := (dig_iff c).1 hd.2
    rw [dv_snoc, Nat.pow_succ]
    omega
theorem numL_short {l : List UInt8} (h : l.length < 1 ∨ 3 < l.length ∨ (l.head? = some 48 ∧ 1 < l.length)) : numL l = none := by
  unfold numL
  rw [if_pos h]
theorem numL_go {l : List UInt8} (h : ¬ (l.length < 1 ∨ 3 < l.length ∨ (l.head? = some 48 ∧ 1 < l.length))) : numL l = if l.all dig then (if 255 < dv l then none else some (dv l)) else none := by
  unfold numL
  rw [if_neg h]
  rfl
def numR (l : List UInt8) : Int := match numL l with
  | some n => (n : Int)
  | none => -1
theorem take_all_snoc (l : List UInt8) (k : Nat) (hk : k < l.length) (h : (l.take k).all dig = true) (hd : dig l[k] = true) : (l.take (k + 1)).all dig = true ∧ dv (l.take (k + 1)) = 10 * dv (l.take k) + (l[k].toNat - 48) := by
  rw [List.take_succ_eq_append_getElem hk]
  refine ⟨?_, dv_snoc _ _⟩
  rw [List.all_append, h]
  simp [hd]
theorem not_all {l : List UInt8} {k : Nat} (hk : k < l.length) (hd : dig l[k] = false) : l.all dig = false := by
  rw [List.all_eq_false]
  exact ⟨l[k], List.getElem_mem hk, by simp [hd]⟩

set_option maxHeartbeats 1000000 in
theorem rnumber_walk (w : World) (s : ByteArray) (hs : s.size ≤ 1000) : Calls Tryd.prog 19 #[.string s] w fun e w' => e = .returned (.int .i64 (numR s.data.toList)) ∧ w' = w := by
  have hlen : s.data.toList.length = s.size := by simp
  by_cases h1 : s.size < 1
  · have HN := Lib.hid (show numR s.data.toList = -1 by unfold numR; rw [numL_short (.inl (by omega))])
    have h0 : s.size = 0 := by omega
    have hb : decide ((s.size : Int) < 1) = true := by simp; omega
    clear hlen h1 h0
    go_enter Tryd.func19, Tryd.ntmps19
    go_wp2
    go_ret
    exact ⟨by rw [HN.out]; rfl, rfl⟩
  · by_cases h3 : 3 < s.size
    · have HN := Lib.hid (show numR s.data.toList = -1 by unfold numR; rw [numL_short (.inr (.inl (by omega)))])
      have hb : decide ((s.size : Int) < 1) = false := by simp; omega
      have hb1 : decide ((3 : Int) < (s.size : Int)) = true := by simp; omega
      clear hlen
      go_enter Tryd.func19, Tryd.ntmps19
      go_wp2
      go_ret
      exact ⟨by rw [HN.out]; rfl, rfl⟩
    · have hb : decide ((s.size : Int) < 1) = false := by simp; omega
      have hb1 : decide ((3 : Int) < (s.size : Int)) = false := by simp; omega
      have hpos : 0 < s.size := by omega
      obtain ⟨c0, hc0⟩ : ∃ c0, c0 = s[0] := ⟨_, rfl⟩
      have hhead : s.data.toList.head? = some c0 := by rw [List.head?_eq_getElem?, Lib.data_getElem? s 0 hpos, hc0]
      by_cases hz : c0 = 48 ∧ 1 < s.size
      · have HN := Lib.hid (show numR s.data.toList = -1 by unfold numR; rw [numL_short (.inr (.inr ⟨by rw [hhead, hz.1], by omega⟩))])
        have hb2 : ((s[0].toNat : Int) == 48) = true := by rw [← hc0, hz.1]; rfl
        have hb3 : decide ((1 : Int) < (s.size : Int)) = true := by simp; omega
        clear hlen hhead hc0 hz
        go_enter Tryd.func19, Tryd.ntmps19
        go_wp2
        go_ret
        exact ⟨by rw [HN.out]; rfl, rfl⟩
      · have hgo : numL s.data.toList = if s.data.toList.all dig then (if 255 < dv s.data.toList then none else some (dv s.data.toList)) else none := numL_go (by
          rintro (h | h | ⟨h, h'⟩)
          · omega
          · omega
          · rw [hhead] at h
            exact hz ⟨Option.some.inj h, by omega⟩)
        have HGO := Lib.hid hgo
        have HL := Lib.hid hlen
        have hcase : (c0 = 48 ∧ s.size = 1) ∨ c0 ≠ 48 := by
          by_cases h : c0 = 48
          · left; refine ⟨h, ?_⟩
            have : ¬ 1 < s.size := fun h' => hz ⟨h, h'⟩
            omega
          · exact .inr h
        clear hgo hlen hz hhead
        have hb4 : (((s[0].toNat : Int) == 48) = true ∧ decide ((1 : Int) < (s.size : Int)) = false) ∨ ((s[0].toNat : Int) == 48) = false := by
          rcases hcase with ⟨h, h'⟩ | h
          · left; exact ⟨by rw [← hc0, h]; rfl, by simp; omega⟩
          · right
            rw [beq_eq_false_iff_ne]
            intro e
            apply h
            rw [hc0]
            exact UInt8.toNat_inj.1 (by have : (48 : UInt8).toNat = 48 := rfl; omega)
        clear hcase hc0
        rcases hb4 with ⟨hb2, hb3⟩ | hb2
        all_goals
          go_enter Tryd.func19, Tryd.ntmps19
          go_wp2_with fail
          go_loop [3, 4] (fun n i => ∃ k : Nat, k ≤ s.size ∧ i = .int .i64 k ∧ n = .int .i64 (dv (s.data.toList.take k) : Nat) ∧ (s.data.toList.take k).all dig = true) (fun _ i => s.size - (intOf i).toNat)
          case atStart => exact ⟨0, Nat.zero_le _, rfl, rfl, rfl⟩
          case round =>
            obtain ⟨k, hk, rfl, rfl, hall⟩ := hrel
            have hkl : (s.data.toList.take k).length = k := by rw [List.length_take, HL.out]; omega
            have hlt3 : dv (s.data.toList.take k) < 10 ^ k := dv_lt k _ hkl hall
            have HALL := Lib.hid hall
            clear hkl hall
            obtain ⟨d, hd⟩ : ∃ d, d = dv (s.data.toList.take k) := ⟨_, rfl⟩
            rw [← hd] at hlt3 ⊢
            have HD := Lib.hid hd
            clear hd
            by_cases hlt : k < s.size
            · have hkk : k = 0 ∨ k = 1 ∨ k = 2 := by omega
              have hd99 : d ≤ 99 := by rcases hkk with rfl | rfl | rfl <;> simp at hlt3 <;> omega
              have hkd : k < s.data.toList.length := by rw [HL.out]; exact hlt
              have hget : s.data.toList[k] = s[k] := rfl
              obtain ⟨c, hc⟩ : ∃ c, c = s[k] := ⟨_, rfl⟩
              clear hlt3 hkk
              by_cases hlo : c.toNat < 48
              · have HN := Lib.hid (show numR s.data.toList = -1 by
                  unfold numR
                  rw [HGO.out, not_all hkd (by rw [hget, ← hc]; unfold dig; simp [UInt8.le_iff_toNat_le]; omega)]
                  rfl)
                have hb5 : decide ((s[k].toNat : Int) < 48) = true := by rw [← hc]; simp; omega
                clear hget hc
                go_wp2_with fail
                go_ret
                exact ⟨by rw [HN.out]; rfl, rfl⟩
              · have hb5 : decide ((s[k].toNat : Int) < 48) = false := by rw [← hc]; simp; omega
                by_cases hhi : 57 < c.toNat
                · have HN := Lib.hid (show numR s.data.toList = -1 by
                    unfold numR
                    rw [HGO.out, not_all hkd (by rw [hget, ← hc]; unfold dig; simp [UInt8.le_iff_toNat_le]; omega)]
                    rfl)
                  have hb6 : decide ((57 : Int) < (s[k].toNat : Int)) = true := by rw [← hc]; simp; omega
                  clear hget hc
                  go_wp2_with fail
                  go_ret
                  exact ⟨by rw [HN.out]; rfl, rfl⟩
                · have hb6 : decide ((57 : Int) < (s[k].toNat : Int)) = false := by rw [← hc]; simp; omega
                  have hsn := take_all_snoc s.data.toList k hkd HALL.out (by rw [hget, ← hc]; rw [dig_iff]; omega)
                  rw [hget, ← hc, ← HD.out] at hsn
                  have HSN := Lib.hid hsn
                  have hlo' : (48 : Int) ≤ (s[k].toNat : Int) := by rw [← hc]; omega
                  have hhi' : (s[k].toNat : Int) ≤ 57 := by rw [← hc]; omega
                  have HC := Lib.hid hc
                  clear hget hc hsn
                  go_wp2_with fail
                  go_round
                  case rel => exact ⟨k + 1, by omega, by go_num, by rw [HSN.out.2, HC.out]; congr 1; omega, HSN.out.1⟩
                  case measure => simp [intOf]; omega
            · obtain rfl : k = s.size := by omega
              have htk : s.data.toList.take s.size = s.data.toList := List.take_of_length_le (by rw [HL.out]; exact Nat.le_refl _)
              have hall := HALL.out
              have hd' := HD.out
              rw [htk] at hall hd'
              clear hlt3
              by_cases h255 : 255 < d
              · have HN := Lib.hid (show numR s.data.toList = -1 by unfold numR; rw [HGO.out, hall, if_pos rfl, ← hd', if_pos h255])
                clear htk hall hd'
                go_wp2_with fail
                go_ret
                exact ⟨by rw [HN.out]; rfl, rfl⟩
              · have HN := Lib.hid (show numR s.data.toList = (d : Int) by unfold numR; rw [HGO.out, hall, if_pos rfl, ← hd', if_neg h255])
                clear htk hall hd'
                go_wp2_with fail
                go_ret
                exact ⟨by rw [HN.out]; rfl, rfl⟩
end Go.Proofs.YtjacllnmpenbmaaDoor
