/- The reference's plan: Sorted. -/
import Derived.Test.YtelfhcojpigkoaaRef
namespace Go.Proofs.Ytelfhcojpigkoaa
open Go Go.RowKit

theorem Try.info53 : (Try.prog.info? 53).map (fun i => (i.zero, i.size, i.bytes)) = some (some (.agg #[.int .u32 0, .int .u16 0, .slice none 0 0]), 3, 32) := by kernel_rfl
theorem Try.elem53 : ElemT Try.prog 37 53 3 32 := ElemT.mk' Try.info53 Try.underlying37 (by omega) rfl

/-- x at place m. -/
def mv (L : List It) (x : It) (m : Nat) : List It := L.take m ++ [x] ++ L.drop m
theorem mv_length (L : List It) (x : It) (m : Nat) : (mv L x m).length = L.length + 1 := by unfold mv; simp; omega
theorem mv_get (L : List It) (x : It) (m j : Nat) (hm : m ≤ L.length) : (mv L x m)[j]? = if j < m then L[j]? else if j = m then some x else L[j - 1]? := by
  unfold mv
  by_cases h : j < m
  · rw [if_pos h, List.append_assoc, List.getElem?_append_left (by simp; omega), List.getElem?_take, if_pos h]
  · rw [if_neg h]
    by_cases h2 : j = m
    · subst h2
      rw [if_pos rfl, List.append_assoc, List.getElem?_append_right (by simp; omega)]
      simp [Nat.min_eq_left hm]
    · rw [if_neg h2, List.getElem?_append_right (by simp; omega), List.getElem?_drop]
      congr 1
      simp
      omega
theorem mv_mem {L : List It} {x y : It} {m : Nat} (h : y ∈ mv L x m) : y ∈ L ∨ y = x := by
  unfold mv at h
  simp only [List.mem_append, List.mem_singleton] at h
  rcases h with (h | h) | h
  · exact .inl (List.mem_of_mem_take h)
  · exact .inr h
  · exact .inl (List.mem_of_mem_drop h)
theorem mv_end (L : List It) (x : It) : mv L x L.length = L ++ [x] := by simp [mv]
theorem mv_swap (L : List It) (x : It) (m : Nat) (y : It) (hm : m + 1 ≤ L.length) (hy : L[m]? = some y) : ((mv L x (m + 1)).set (m + 1) y).set m x = mv L x m := by
  apply List.ext_getElem?
  intro j
  have hl := mv_length L x (m + 1)
  rw [mv_get L x m j (by omega)]
  by_cases h : j = m
  · subst h
    rw [List.getElem?_set_self (by simp; omega), if_neg (by omega), if_pos rfl]
  · rw [List.getElem?_set_ne (by omega)]
    by_cases h2 : j = m + 1
    · subst h2
      rw [List.getElem?_set_self (by omega), if_neg (by omega), if_neg (by omega)]
      simp [hy]
    · rw [List.getElem?_set_ne (by omega), mv_get L x (m + 1) j hm]
      by_cases h3 : j < m
      · rw [if_pos (by omega), if_pos h3]
      · rw [if_neg (by omega), if_neg (by omega), if_neg h3, if_neg h]
theorem flat_set3 (L : List It) (k : Nat) (x : It) (hk : k < L.length) : (((flat L).set (k * 3) (.int .u32 x.t)).set (k * 3 + 1) (.int .u16 x.id)).set (k * 3 + 2) x.v = flat (L.set k x) := by
  apply List.ext_getElem?
  intro m
  obtain ⟨j, r, hr, rfl⟩ : ∃ j r, r < 3 ∧ m = j * 3 + r := ⟨m / 3, m % 3, by omega, by omega⟩
  rw [set3_get _ _ _ _ k j r (by rw [flat_length]; omega) hr]
  by_cases hj : j < L.length
  · rw [flat_get (L.set k x) j r (by simpa using hj) hr]
    by_cases h : j = k
    · subst h; simp [It.cells]
    · rw [if_neg h, flat_get L j r hj hr]
      congr 2
      rw [List.getElem_set_ne (by omega)]
  · rw [if_neg (by omega), List.getElem?_eq_none (by rw [flat_length]; omega), List.getElem?_eq_none (by rw [flat_length]; simp; omega)]

/-- A struct stored into an own slice. -/
theorem own_stored3 {w : World} {B e n g c : Nat} {L : List It} (h : w.ownsRow B e 3 (.slice (some ⟨g, 0, none⟩) n c) n (flat L)) (k : Nat) (x : It) (hk : k < L.length) :
    (((w.setCell ⟨g, k * 3, none⟩ (.int .u32 x.t)).setCell ⟨g, k * 3 + 1, none⟩ (.int .u16 x.id)).setCell ⟨g, k * 3 + 2, none⟩ x.v).ownsRow B e 3 (.slice (some ⟨g, 0, none⟩) n c) n (flat (L.set k x)) := by
  have h1 := (h.stored (k * 3) (.int .u32 x.t)).1
  have h2 := (h1.stored (k * 3 + 1) (.int .u16 x.id)).1
  have h3 := (h2.stored (k * 3 + 2) x.v).1
  rwa [flat_set3 L k x hk] at h3

set_option maxHeartbeats 1000000 in
theorem sorted_walk (w : World) (B n : Nat) (a : Option Addr) (c : Nat) (L : List It) (x : It) (hown : w.ownsRow B 53 3 (.slice a (n + 1) c) (n + 1) (flat (L ++ [x]))) (hL : L.length = n) (hn : n ≤ 32)
    (hs : (times L).Pairwise (· ≤ ·)) (hsl : ∀ y ∈ L ++ [x], ∃ a n c, y.v = .slice a n c) :
    Calls Try.prog 27 #[.slice a (n + 1) c] w fun e w' => ∃ g' c', e = .returned (.slice (some ⟨g', 0, none⟩) (n + 1) c') ∧ w'.ownsRow w.heap.size 53 3 (.slice (some ⟨g', 0, none⟩) (n + 1) c') (n + 1) (flat (insAt L x)) ∧ Mod NoB w w' := by
  obtain ⟨N, hN⟩ : ∃ N, N = lateN (times L) x.t := ⟨_, rfl⟩
  have hfin : insAt L x = mv L x N := by unfold insAt mv; rw [hN]
  rw [hfin]
  have hNn : N ≤ n := by rw [hN, ← hL]; have := lateN_le (times L) x.t; simpa [times] using this
  have hmid : ∀ k y, L[k]? = some y → (y.t ≤ x.t → k + 1 ≤ N) ∧ (x.t < y.t → N ≤ k) := fun k y hy => by
    rw [hN]; exact lateN_mid (times L) x.t hs k y.t (by simp [times, hy])
  have hsrt : ∀ k y z, L[k]? = some y → L[k + 1]? = some z → y.t ≤ z.t := fun k y z hy hz => by
    have h1 : (times L)[k]? = some y.t := by simp [times, hy]
    have h2 : (times L)[k + 1]? = some z.t := by simp [times, hz]
    obtain ⟨i1, e1⟩ := List.getElem?_eq_some_iff.1 h1
    obtain ⟨i2, e2⟩ := List.getElem?_eq_some_iff.1 h2
    have := List.pairwise_iff_getElem.1 hs k (k + 1) i1 i2 (by omega)
    rw [e1, e2] at this
    exact this
  have hown0 : (w.alloc (.cells #[] 53)).ownsRow w.heap.size 53 3 (.slice (some ⟨w.heap.size, 0, none⟩) 0 0) 0 [] := World.ownsRow_made w #[] 0 (Nat.le_refl _) (by unfold maxLen; omega) rfl
  have hones : Ones (flat (L ++ [x])) := flat_ones fun y hy => by obtain ⟨a, n, c, e⟩ := hsl y hy; rw [e]; rfl
  obtain ⟨ad, rfl⟩ : ∃ g, a = some ⟨g, 0, none⟩ := by
    rcases hown.2 with ⟨_, h0⟩ | ⟨g, cap, cur, hv, _⟩
    · omega
    · cases hv; exact ⟨g, rfl⟩
  have hm0 : Mod NoB w (w.alloc (.cells #[] 53)) := (Mod.refl _ _).alloc _
  have harr : Arr (w.alloc (.cells #[] 53)) ⟨ad, 0, none⟩ (flat (L ++ [x])) := fun j u hu => by
    have hj : j < (n + 1) * 3 := by have := (List.getElem?_eq_some_iff.1 hu).1; rw [flat_length] at this; simp at this; omega
    have := (hm0.own hown (fun _ _ h => h)).cellAt j hj
    rw [Addr.add_mid, Nat.zero_add, this, hu]
  obtain ⟨v', w3, hrun, hown3, hm3, hb3, hn3⟩ := append_own (P := Try.prog) Try.elem53 hown0 (m := n + 1) (by rw [flat_length]; simp [hL]) harr hones (by unfold maxLen; omega) (by omega) (by simp)
  have hm03 : Mod NoB w w3 := hm0.trans' hm3 (fun k hk e => by simp [Value.ownBlock] at e; omega)
  obtain ⟨g', c', rfl⟩ : ∃ g' c', v' = .slice (some ⟨g', 0, none⟩) (n + 1) c' := by
    rcases hown3.2 with ⟨_, h0⟩ | ⟨g, cap, cur, hv, _⟩
    · omega
    · exact ⟨g, cap, by rw [hv]; simp⟩
  rw [List.nil_append, ← mv_end, Nat.zero_add] at hown3
  rw [hL] at hown3
  have HRUN := Lib.hid hrun
  have HL := Lib.hid hL
  have HMID := Lib.hid hmid
  have HSRT := Lib.hid hsrt
  have HSL := Lib.hid hsl
  clear hfin hN hs hL hmid hsrt hsl hrun hn3 hb3 hm3 hones harr hown0 hm0 hown
  go_enter Try.func27, Try.ntmps27
  go_wp2_with (at_builtin; refine wpList_of_run rfl (exec_builtin2 (b := .append) (fun _ _ _ _ => rfl) _ _ 37 37 rfl rfl rfl (HRUN.out _ _)) ?_)
  go_loopw [11] (fun i wr => ∃ k : Nat, k ≤ n + 1 ∧ i = .int .i64 k ∧ wr.ownsRow w.heap.size 53 3 (.slice (some ⟨g', 0, none⟩) (n + 1) c') (n + 1) (flat (mv L x (if k ≤ n then n else N))) ∧ Mod NoB w wr) (fun i _ => n + 1 - (intOf i).toNat)
  case atStart => exact ⟨0, by omega, rfl, by rw [if_pos (by omega)]; exact hown3, hm03⟩
  case round =>
    obtain ⟨k, hk, rfl, ho, hm⟩ := hrel
    by_cases hlt : k < n + 1
    · rw [if_pos (by omega)] at ho
      obtain ⟨wo, rfl⟩ : ∃ wo : World, wo = wr := ⟨_, rfl⟩
      go_wp2_with fail
      go_loopw [5] (fun i wr => ∃ j : Nat, j ≤ k ∧ i = .int .i64 j ∧ wr.ownsRow w.heap.size 53 3 (.slice (some ⟨g', 0, none⟩) (n + 1) c') (n + 1) (flat (mv L x (if k < n then n else j))) ∧ (k < n → j = k) ∧ (k = n → N ≤ j) ∧ Mod NoB w wr) (fun i _ => (intOf i).toNat)
      case atStart =>
        refine ⟨k, Nat.le_refl _, rfl, ?_, fun _ => rfl, fun h => by omega, hm⟩
        by_cases h : k < n
        · rw [if_pos h]; exact ho
        · obtain rfl : k = n := by omega
          rw [if_neg h]; exact ho
      case round =>
        obtain ⟨j, hj, rfl, ho, hjk, hjN, hm⟩ := hrel
        have hfinal : (k < n ∨ j = N) → flat (mv L x (if k < n then n else j)) = flat (mv L x (if k + 1 ≤ n then n else N)) := fun h => by
          by_cases hk : k < n
          · rw [if_pos hk, if_pos (by omega)]
          · rw [if_neg hk, if_neg (by omega)]
            rcases h with h | h
            · omega
            · rw [h]
        have HFIN := Lib.hid hfinal
        clear hfinal
        by_cases h0 : j = 0
        · subst h0
          have HO := HFIN.out (by by_cases h : k < n; exact .inl h; exact .inr (by have := hjN (by omega); omega))
          rw [HO] at ho
          clear HO
          go_wp2_with fail
          go_quiet (fail)
          go_wp2_with fail
          go_roundw
          case rel => exact ⟨k + 1, by omega, by go_num, ho, hm.drewN _⟩
          case measure => simp [intOf]; omega
        · have hlen : (mv L x (if k < n then n else j)).length = n + 1 := by rw [mv_length, HL.out]
          obtain ⟨y, hy⟩ : ∃ y, (mv L x (if k < n then n else j))[j]? = some y := ⟨_, List.getElem?_eq_getElem (by omega)⟩
          obtain ⟨z, hz⟩ : ∃ z, (mv L x (if k < n then n else j))[j - 1]? = some z := ⟨_, List.getElem?_eq_getElem (by omega)⟩
          obtain ⟨ga, hga, y0, y1, y2⟩ := own_item ho hlen hy
          cases hga
          obtain ⟨gb, hgb, z0, z1, z2⟩ := own_item ho hlen hz
          cases hgb
          have hsly : ∃ a n c, y.v = .slice a n c := HSL.out y (by rcases mv_mem (List.mem_of_getElem? hy) with h | h <;> simp [h])
          have hslz : ∃ a n c, z.v = .slice a n c := HSL.out z (by rcases mv_mem (List.mem_of_getElem? hz) with h | h <;> simp [h])
          obtain ⟨ay, ny, cy, hyv⟩ := hsly
          obtain ⟨az, nz, cz, hzv⟩ := hslz
          have hcase : (decide (y.t < z.t) = false ∧ (k < n ∨ j = N)) ∨ (decide (y.t < z.t) = true ∧ k = n ∧ y = x ∧ L[j - 1]? = some z ∧ N ≤ j - 1) := by
            by_cases hkn : k < n
            · left
              have hjk' := hjk hkn
              subst hjk'
              rw [if_pos hkn, mv_get _ _ _ _ (by rw [HL.out]; omega), if_pos (by omega)] at hy hz
              have := HSRT.out (j - 1) z y hz (by rw [show j - 1 + 1 = j by omega]; exact hy)
              exact ⟨by simp; omega, .inl hkn⟩
            · obtain rfl : k = n := by omega
              rw [if_neg hkn, mv_get _ _ _ _ (by rw [HL.out]; omega)] at hy hz
              rw [if_neg (by omega), if_pos rfl] at hy
              rw [if_pos (by omega)] at hz
              cases hy
              have := HMID.out (j - 1) z hz
              by_cases hlt : x.t < z.t
              · right; exact ⟨by simpa using hlt, rfl, rfl, hz, this.2 hlt⟩
              · left; exact ⟨by simpa using hlt, .inr (by have := this.1 (by omega); have := hjN rfl; omega)⟩
          obtain ⟨yt, hyt⟩ : ∃ yt, yt = y.t := ⟨_, rfl⟩
          obtain ⟨yi, hyi⟩ : ∃ yi, yi = y.id := ⟨_, rfl⟩
          obtain ⟨zt, hzt⟩ : ∃ zt, zt = z.t := ⟨_, rfl⟩
          obtain ⟨zi, hzi⟩ : ∃ zi, zi = z.id := ⟨_, rfl⟩
          rw [← hyt, ← hzt] at hcase
          rw [← hyt] at y0
          rw [← hyi] at y1
          rw [hyv] at y2
          rw [← hzt] at z0
          rw [← hzi] at z1
          rw [hzv] at z2
          have hj1 : IntKind.i64.wrap ((j : Int) - 1) = (j : Int) - 1 := by rw [IntKind.wrap_i64]; omega
          have hj2 : ((j : Int) - 1).toNat = j - 1 := by omega
          have hj3 : (0 : Int) ≤ (j : Int) - 1 := by omega
          have hj4 : (j : Int) - 1 < (n : Int) + 1 := by omega
          have hj5 : 0 < j := by omega
          rcases hcase with ⟨hd, hc⟩ | ⟨hd, hkn, hyx, hzL, hNj⟩
          · have HO := HFIN.out hc
            rw [HO] at ho
            clear HO hyt hyi hzt hzi hyv hzv hy hz hlen hc
            go_wp2_with fail
            go_quiet (fail)
            go_wp2_with fail
            go_roundw
            case rel => exact ⟨k + 1, by omega, by go_num, ho, hm.drewN _⟩
            case measure => simp [intOf]; omega
          · subst hkn
            have HNJ := Lib.hid hNj
            have HZL := Lib.hid hzL
            have HYX := Lib.hid hyx
            have HYT := Lib.hid hyt
            have HYI := Lib.hid hyi
            have HZT := Lib.hid hzt
            have HZI := Lib.hid hzi
            have HYV := Lib.hid hyv
            have HZV := Lib.hid hzv
            clear hNj hzL hyx hyt hyi hzt hzi hyv hzv hy hz hlen
            go_wp2_with fail
            go_quiet (fail)
            obtain ⟨W, hW⟩ : ∃ W, W = wr.drewN nq := ⟨_, rfl⟩
            have hoW : W.ownsRow w.heap.size 53 3 (.slice (some ⟨g', 0, none⟩) (k + 1) c') (k + 1) (flat (mv L x (if k < k then k else j))) := by rw [hW]; exact ho
            have hmW : Mod NoB w W := by rw [hW]; exact hm.drewN _
            have hgw : g' < w.heap.size → NoB g' := fun h => by have := (hoW.lt g' rfl).1; omega
            have y0 : W.cell? ⟨g', j * 3, none⟩ = some (.int .u32 yt) := by rw [hW]; exact y0
            have y1 : W.cell? ⟨g', j * 3 + 1, none⟩ = some (.int .u16 yi) := by rw [hW]; exact y1
            have y2 : W.cell? ⟨g', j * 3 + 2, none⟩ = some (.slice ay ny cy) := by rw [hW]; exact y2
            have z0 : W.cell? ⟨g', (j - 1) * 3, none⟩ = some (.int .u32 zt) := by rw [hW]; exact z0
            have z1 : W.cell? ⟨g', (j - 1) * 3 + 1, none⟩ = some (.int .u16 zi) := by rw [hW]; exact z1
            have z2 : W.cell? ⟨g', (j - 1) * 3 + 2, none⟩ = some (.slice az nz cz) := by rw [hW]; exact z2
            have f0 := hoW.frozenAt (j * 3)
            have f1 := hoW.frozenAt (j * 3 + 1)
            have f2 := hoW.frozenAt (j * 3 + 2)
            have f3 := hoW.frozenAt ((j - 1) * 3)
            have f4 := hoW.frozenAt ((j - 1) * 3 + 1)
            have f5 := hoW.frozenAt ((j - 1) * 3 + 2)
            rw [← hW]
            clear hW
            go_wp2_with fail
            go_region
            all_goals go_wp2_with fail
            all_goals go_roundw
            case rel =>
              rw [if_neg (by omega)] at hoW
              have hlj : j < (mv L y j).length := by rw [mv_length, HL.out]; omega
              have hY : y = x := HYX.out
              have s1 := own_stored3 hoW j z (by rw [mv_length, HL.out]; omega)
              have s2 := own_stored3 s1 (j - 1) y (by rw [List.length_set, mv_length, HL.out]; omega)
              have hsw : ((mv L x j).set j z).set (j - 1) y = mv L x (j - 1) := by
                have := mv_swap L x (j - 1) z (by rw [HL.out]; omega) HZL.out
                rw [show j - 1 + 1 = j by omega] at this
                rw [hY]
                exact this
              rw [hsw] at s2
              rw [← HZT.out, ← HZI.out, HZV.out, ← HYT.out, ← HYI.out, HYV.out] at s2
              refine ⟨j - 1, by omega, by omega, ((Mod.refl NoB _).drew).own s2 (fun _ _ h => h), HNJ.out, ?_⟩
              exact ((((((hmW.setCell (a := ⟨g', j * 3, none⟩) _ hgw).setCell (a := ⟨g', j * 3 + 1, none⟩) _ hgw).setCell (a := ⟨g', j * 3 + 2, none⟩) _ hgw).setCell (a := ⟨g', (j - 1) * 3, none⟩) _ hgw).setCell (a := ⟨g', (j - 1) * 3 + 1, none⟩) _ hgw).setCell (a := ⟨g', (j - 1) * 3 + 2, none⟩) _ hgw).drew
            case measure => simp [intOf]; omega
    · obtain rfl : k = n + 1 := by omega
      rw [if_neg (by omega)] at ho
      go_wp2_with fail
      go_ret
      exact ⟨g', c', rfl, ho, hm⟩
end Go.Proofs.Ytelfhcojpigkoaa
