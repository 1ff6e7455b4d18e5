/- The reference's plan: same, like, Sorted. -/
import Derived.Test.YtelfhcojpigkoaaPlan7
namespace Go.Proofs.Ytelfhcojpigkoaa
open Go Go.RowKit

/-- A slice of slices: each reads as it should. -/
def RdAll (w : World) (vs : List Value) (ls : List (List Int)) : Prop := vs.length = ls.length ∧ ∀ (k : Nat) (v : Value) (l : List Int), vs[k]? = some v → ls[k]? = some l → ∃ a c, v = .slice a l.length c ∧ Rd w a (bv l) ∧ l.length ≤ 9223372036854775807
theorem RdAll.nob {w w' : World} {vs : List Value} {ls : List (List Int)} (h : RdAll w vs ls) (hm : Mod NoB w w') : RdAll w' vs ls :=
  ⟨h.1, fun k v l h1 h2 => by
    obtain ⟨a, c, e, hr, hl⟩ := h.2 k v l h1 h2
    exact ⟨a, c, e, hr.nob hm, hl⟩⟩

set_option maxHeartbeats 1000000 in
theorem sames_walk (w : World) (a a' : Option Addr) (n n' c c' : Nat) (vs vs' : List Value) (ls ls' : List (List Int)) (hr : Rd w a vs) (hr' : Rd w a' vs') (hv : vs.length = n) (hv' : vs'.length = n') (hn : n ≤ 1000)
    (hl : RdAll w vs ls) (hl' : RdAll w vs' ls') :
    Calls Try.prog 15 #[.slice a n c, .slice a' n' c'] w fun e w' => e = .returned (.bool (decide (ls = ls'))) ∧ Mod NoB w w' := by
  have hln : ls.length = n := by rw [← hl.1, hv]
  have hln' : ls'.length = n' := by rw [← hl'.1, hv']
  have hfin0 : n ≠ n' → decide (ls = ls') = false := fun h => by simp; rintro rfl; omega
  have hfin1 : ∀ (k : Nat) (x x' : List Int), ls[k]? = some x → ls'[k]? = some x' → decide (x = x') = false → decide (ls = ls') = false := fun k x x' h1 h2 hne => by
    simp at hne ⊢
    rintro rfl
    rw [h1] at h2
    exact hne (Option.some.inj h2)
  have hfin2 : n = n' → (∀ k : Nat, k < n → ls[k]? = ls'[k]?) → decide (ls = ls') = true := fun h1 h2 => by
    simp
    refine List.ext_getElem? fun k => ?_
    by_cases hk : k < n
    · exact h2 k hk
    · rw [List.getElem?_eq_none (by omega), List.getElem?_eq_none (by omega)]
  obtain ⟨Bo, hB⟩ : ∃ B, B = decide (ls = ls') := ⟨_, rfl⟩
  rw [← hB] at hfin0 hfin1 hfin2 ⊢
  clear hB
  by_cases hnn : n = n'
  · subst hnn
    have HV := Lib.hid hv
    have HV' := Lib.hid hv'
    have HLN := Lib.hid hln
    have HLN' := Lib.hid hln'
    have H1 := Lib.hid hfin1
    have H2 := Lib.hid (hfin2 rfl)
    clear hv hv' hln hln' hfin0 hfin1 hfin2
    go_enter Try.func15, Try.ntmps15
    go_wp2_with fail
    go_loopw [13] (fun i wr => ∃ k : Nat, k ≤ n ∧ i = .int .i64 k ∧ (∀ j : Nat, j < k → ls[j]? = ls'[j]?) ∧ Mod NoB w wr) (fun i _ => n - (intOf i).toNat)
    case atStart => exact ⟨0, Nat.zero_le _, rfl, fun j hj => by omega, Mod.refl _ _⟩
    case round =>
      obtain ⟨k, hk, rfl, hsm, hm⟩ := hrel
      by_cases hlt : k < n
      · have hk1 : k < vs.length := by rw [HV.out]; exact hlt
        have hk2 : k < vs'.length := by rw [HV'.out]; exact hlt
        have hk3 : k < ls.length := by rw [HLN.out]; exact hlt
        have hk4 : k < ls'.length := by rw [HLN'.out]; exact hlt
        obtain ⟨b, o, rfl, hb, hc⟩ := (hr.nob hm).at_ (List.getElem?_eq_getElem hk1)
        obtain ⟨b', o', rfl, hb', hc'⟩ := (hr'.nob hm).at_ (List.getElem?_eq_getElem hk2)
        obtain ⟨ax, cx, hx, hrx, hlx⟩ := (hl.nob hm).2 k vs[k] ls[k] (List.getElem?_eq_getElem hk1) (List.getElem?_eq_getElem hk3)
        obtain ⟨ay, cy, hy, hry, hly⟩ := (hl'.nob hm).2 k vs'[k] ls'[k] (List.getElem?_eq_getElem hk2) (List.getElem?_eq_getElem hk4)
        rw [hx] at hc
        rw [hy] at hc'
        have g1 : ls[k]? = some ls[k] := List.getElem?_eq_getElem hk3
        have g2 : ls'[k]? = some ls'[k] := List.getElem?_eq_getElem hk4
        obtain ⟨x, hxe⟩ : ∃ x, x = ls[k] := ⟨_, rfl⟩
        obtain ⟨x', hxe'⟩ : ∃ x', x' = ls'[k] := ⟨_, rfl⟩
        rw [← hxe] at hc g1 hrx hlx
        rw [← hxe'] at hc' g2 hry hly
        obtain ⟨nx, hnx⟩ : ∃ nx, nx = x.length := ⟨_, rfl⟩
        obtain ⟨ny, hny⟩ : ∃ ny, ny = x'.length := ⟨_, rfl⟩
        rw [← hnx] at hc hlx
        rw [← hny] at hc' hly
        have hsw : ∀ W, Mod NoB w W → Rd W ax (bv x) → Rd W ay (bv x') → Calls Try.prog 20 #[.slice ax nx cx, .slice ay ny cy] W fun e w' => e = .returned (.bool (decide (x = x'))) ∧ Mod NoB W w' := fun W _ h1 h2 => same_walk W ax ay cx cy x x' nx ny hnx.symm hny.symm hlx h1 h2
        have HSW := Lib.hid hsw
        have G1 := Lib.hid g1
        have G2 := Lib.hid g2
        have HS := Lib.hid hsm
        clear hx hy hxe hxe' g1 g2 hsm hnx hny hsw
        go_wp2_with fail
        go_region_held3 (fun w' => w'.cell? ⟨b, o + k, none⟩ = some (.slice ax nx cx) ∧ w'.cell? ⟨b', o' + k, none⟩ = some (.slice ay ny cy)) (first | go_keep | exact ⟨hm2.cell (w := wr.drew) hc (fun h => h), hm2.cell (w := wr.drew) hc' (fun h => h)⟩)
          (first | (go_at_call 20; refine (HSW.out _ hm.drew (hrx.nob ((Mod.refl NoB wr).drew)) (hry.nob ((Mod.refl NoB wr).drew))).mono ?_; rintro e w2 ⟨rfl, hm2⟩))
        by_cases hxx : x = x'
        · have hd : decide (x = x') = true := by simpa using hxx
          rw [hd]
          clear hd
          go_wp2_with fail
          go_roundw
          case rel =>
            refine ⟨k + 1, by omega, by go_num, fun j hj => ?_, hm.drew.trans hm2⟩
            by_cases h : j < k
            · exact HS.out j h
            · obtain rfl : j = k := by omega
              rw [G1.out, G2.out, hxx]
          case measure => simp [intOf]; omega
        · have hd : decide (x = x') = false := by simpa using hxx
          rw [hd]
          have HF := Lib.hid (H1.out k x x' G1.out G2.out hd)
          clear hd hxx
          go_wp2_with fail
          go_ret
          exact ⟨by rw [HF.out]; rfl, hm.drew.trans hm2⟩
      · have HF := Lib.hid (H2.out (fun j hj => hsm j (by omega)))
        clear hsm
        go_wp2_with fail
        go_ret
        exact ⟨by rw [HF.out]; rfl, hm⟩
  · have hb : ((n : Int) == (n' : Int)) = false := by simp; omega
    have hb' : ((n : Int) != (n' : Int)) = true := by simp; omega
    have HF := Lib.hid (hfin0 hnn)
    clear hfin0 hfin1 hfin2
    go_enter Try.func15, Try.ntmps15
    go_wp2_with fail
    go_ret
    exact ⟨by rw [HF.out]; rfl, Mod.refl _ _⟩

/-- What an item's command's bytes are. -/
def It.byt (x : It) : List Int := x.tc.map intOf
theorem byt_bv (zs : List Int) : (bv zs).map intOf = zs := by simp [bv, intOf, Function.comp_def]
/-- Do two items say the same? -/
def sameIt (x y : It) : Bool := decide (x.t = y.t) && (decide (x.id = y.id) && decide (x.byt = y.byt))
/-- What an item's command reads as, for whoever reads alone. -/
def RdIt (w : World) (x : It) : Prop := ∃ (zs : List Int) (a : Option Addr) (c : Nat), x.tc = bv zs ∧ x.v = .slice a zs.length c ∧ Rd w a (bv zs) ∧ zs.length ≤ 1000
theorem RdIt.nob {w w' : World} {x : It} (h : RdIt w x) (hm : Mod NoB w w') : RdIt w' x := by
  obtain ⟨zs, a, c, h1, h2, h3, h4⟩ := h
  exact ⟨zs, a, c, h1, h2, h3.nob hm, h4⟩
theorem RdIt.of_tc {w : World} {B : Nat} {x : It} (h : TcAt w B x) (hb : ∃ zs : List Int, x.tc = bv zs) : RdIt w x := by
  obtain ⟨zs, hz⟩ := hb
  obtain ⟨a, c, e⟩ := own_slice h.1
  have hl : x.tc.length = zs.length := by rw [hz, bv_length]
  have ho := h.1
  rw [e] at ho
  refine ⟨zs, a, c, hz, by rw [e, hl], by rw [← hz]; exact Rd.of_own ho, by have := h.2.2; omega⟩

/-- An item of an own slice: where it lies, its cells. -/
theorem own_item {w : World} {B e n c : Nat} {a : Option Addr} {L : List It} (h : w.ownsRow B e 3 (.slice a n c) n (flat L)) (hL : L.length = n) {k : Nat} {x : It} (hx : L[k]? = some x) :
    ∃ g, a = some ⟨g, 0, none⟩ ∧ w.cell? ⟨g, k * 3, none⟩ = some (.int .u32 x.t) ∧ w.cell? ⟨g, k * 3 + 1, none⟩ = some (.int .u16 x.id) ∧ w.cell? ⟨g, k * 3 + 2, none⟩ = some x.v := by
  obtain ⟨hk, hxe⟩ := List.getElem?_eq_some_iff.1 hx
  rcases h.2 with ⟨_, h0⟩ | ⟨g, cap, cur, hv, _⟩
  · omega
  · cases hv
    have hc : ∀ i, i < 3 → w.cell? ⟨g, k * 3 + i, none⟩ = x.cells[i]? := fun i hi => by rw [h.cellAt _ (by omega), flat_get L k i hk hi, hxe]
    exact ⟨g, rfl, hc 0 (by omega), hc 1 (by omega), hc 2 (by omega)⟩

set_option maxHeartbeats 2000000 in
theorem like_walk (w : World) (B B' : Nat) (a a' : Option Addr) (n n' c c' : Nat) (L L' : List It) (ho : w.ownsRow B 56 3 (.slice a n c) n (flat L)) (ho' : w.ownsRow B' 53 3 (.slice a' n' c') n' (flat L')) (hL : L.length = n) (hL' : L'.length = n') (hn : n ≤ 1000)
    (hi : ∀ x ∈ L, RdIt w x) (hi' : ∀ x ∈ L', RdIt w x) :
    Calls Try.prog 16 #[.slice a n c, .slice a' n' c'] w fun e w' => ∃ b, e = .returned (.bool b) ∧ (b = true ↔ n = n' ∧ ∀ (k : Nat) (x y : It), L[k]? = some x → L'[k]? = some y → sameIt x y = true) ∧ Mod NoB w w' := by
  by_cases hnn : n = n'
  · subst hnn
    have HL := Lib.hid hL
    have HL' := Lib.hid hL'
    clear hL hL'
    go_enter Try.func16, Try.ntmps16
    go_wp2_with fail
    go_loopw [14] (fun i wr => ∃ k : Nat, k ≤ n ∧ i = .int .i64 k ∧ (∀ (j : Nat) (x y : It), j < k → L[j]? = some x → L'[j]? = some y → sameIt x y = true) ∧ Mod NoB w wr) (fun i _ => n - (intOf i).toNat)
    case atStart => exact ⟨0, Nat.zero_le _, rfl, fun j x y hj => by omega, Mod.refl _ _⟩
    case round =>
      obtain ⟨k, hk, rfl, hsm, hm⟩ := hrel
      have HS := Lib.hid hsm
      clear hsm
      by_cases hlt : k < n
      · have hk1 : k < L.length := by rw [HL.out]; exact hlt
        have hk2 : k < L'.length := by rw [HL'.out]; exact hlt
        obtain ⟨x, hx⟩ : ∃ x, x = L[k] := ⟨_, rfl⟩
        obtain ⟨y, hy⟩ : ∃ y, y = L'[k] := ⟨_, rfl⟩
        have hxk : L[k]? = some x := by rw [hx]; simp
        have hyk : L'[k]? = some y := by rw [hy]; simp
        obtain ⟨g, rfl, x0, x1, x2⟩ := own_item ho HL.out hxk
        obtain ⟨g', rfl, y0, y1, y2⟩ := own_item ho' HL'.out hyk
        obtain ⟨xs, ax, cx, hxs, hxv, hxr, hxl⟩ := (hi x (List.mem_of_getElem? hxk)).nob hm
        obtain ⟨ys, ay, cy, hys, hyv, hyr, hyl⟩ := (hi' y (List.mem_of_getElem? hyk)).nob hm
        have hbx : x.byt = xs := by unfold It.byt; rw [hxs, byt_bv]
        have hby : y.byt = ys := by unfold It.byt; rw [hys, byt_bv]
        have hres : sameIt x y = (decide (x.t = y.t) && (decide (x.id = y.id) && decide (xs = ys))) := by unfold sameIt; rw [hbx, hby]
        obtain ⟨xt, hxt⟩ : ∃ xt, xt = x.t := ⟨_, rfl⟩
        obtain ⟨xi, hxi⟩ : ∃ xi, xi = x.id := ⟨_, rfl⟩
        obtain ⟨yt, hyt⟩ : ∃ yt, yt = y.t := ⟨_, rfl⟩
        obtain ⟨yi, hyi⟩ : ∃ yi, yi = y.id := ⟨_, rfl⟩
        rw [← hxt] at x0
        rw [← hxi] at x1
        rw [← hyt] at y0
        rw [← hyi] at y1
        rw [hxv] at x2
        rw [hyv] at y2
        rw [← hxt, ← hxi, ← hyt, ← hyi] at hres
        obtain ⟨nx, hnx⟩ : ∃ nx, nx = xs.length := ⟨_, rfl⟩
        obtain ⟨ny, hny⟩ : ∃ ny, ny = ys.length := ⟨_, rfl⟩
        rw [← hnx] at x2 hxl
        rw [← hny] at y2 hyl
        have x0 := hm.cell x0 (fun h => h)
        have x1 := hm.cell x1 (fun h => h)
        have x2 := hm.cell x2 (fun h => h)
        have y0 := hm.cell y0 (fun h => h)
        have y1 := hm.cell y1 (fun h => h)
        have y2 := hm.cell y2 (fun h => h)
        have hmW : Mod NoB wr (wr.alloc (.cells #[Value.int .u32 xt, .int .u16 xi, .slice ax nx cx] 56)) := (Mod.refl _ _).alloc _
        have z0 := hmW.cell y0 (fun h => h)
        have z1 := hmW.cell y1 (fun h => h)
        have z2 := hmW.cell y2 (fun h => h)
        have hsw : ∀ W, Mod NoB wr W → Calls Try.prog 20 #[.slice ax nx cx, .slice ay ny cy] W fun e w' => e = .returned (.bool (decide (xs = ys))) ∧ Mod NoB W w' := fun W h1 => same_walk W ax ay cx cy xs ys nx ny hnx.symm hny.symm (by omega) (hxr.nob h1) (hyr.nob h1)
        have hfalse : sameIt x y = false → (false = true ↔ n = n ∧ ∀ (k : Nat) (x y : It), L[k]? = some x → L'[k]? = some y → sameIt x y = true) := fun h => Iff.intro (fun h' => by cases h') (fun h' => by rw [h'.2 k x y hxk hyk] at h; cases h)
        have HFL := Lib.hid hfalse
        clear hfalse
        have HSW := Lib.hid hsw
        have HR := Lib.hid hres
        have HXK := Lib.hid hxk
        have HYK := Lib.hid hyk
        clear hx hy hxk hyk hxs hys hxv hyv hbx hby hres hxt hxi hyt hyi hnx hny hsw hxl hyl
        by_cases ht : xt = yt
        · by_cases hid : xi = yi
          · subst ht hid
            have hb1 : (xt != xt) = false := by simp
            have hb2 : (xi != xi) = false := by simp
            have hb3 : (xt == xt) = true := by simp
            have hb4 : (xi == xi) = true := by simp
            obtain ⟨D, hD⟩ : ∃ D, D = decide (xs = ys) := ⟨_, rfl⟩
            have hF : sameIt x y = D := by rw [HR.out, hD]; simp
            rw [← hD] at HSW
            have HF := Lib.hid hF
            clear hF hD HR
            go_wp2_with fail
            have hkey : ∀ w', Mod NoB (wr.alloc (.cells #[Value.int .u32 xt, .int .u16 xi, .slice ax nx cx] 56)).drew w' → w'.cell? ⟨wr.heap.size, 0, none⟩ = some (.int .u32 xt) ∧ w'.cell? ⟨wr.heap.size, 1, none⟩ = some (.int .u16 xi) ∧ w'.cell? ⟨wr.heap.size, 2, none⟩ = some (.slice ax nx cx) ∧ w'.cell? ⟨g', k * 3, none⟩ = some (.int .u32 xt) ∧ w'.cell? ⟨g', k * 3 + 1, none⟩ = some (.int .u16 xi) ∧ w'.cell? ⟨g', k * 3 + 2, none⟩ = some (.slice ay ny cy) := fun w' h => by
              have hbx : Blk (wr.alloc (.cells #[Value.int .u32 xt, .int .u16 xi, .slice ax nx cx] 56)).drew wr.heap.size 56 [.int .u32 xt, .int .u16 xi, .slice ax nx cx] := Blk.new wr 56 _
              exact ⟨(hbx.mod h (fun h => h)).cell 0, (hbx.mod h (fun h => h)).cell 1, (hbx.mod h (fun h => h)).cell 2, h.cell (w := (wr.alloc (.cells #[Value.int .u32 xt, .int .u16 xi, .slice ax nx cx] 56)).drew) z0 (fun h => h), h.cell (w := (wr.alloc (.cells #[Value.int .u32 xt, .int .u16 xi, .slice ax nx cx] 56)).drew) z1 (fun h => h), h.cell (w := (wr.alloc (.cells #[Value.int .u32 xt, .int .u16 xi, .slice ax nx cx] 56)).drew) z2 (fun h => h)⟩
            have HKEY := Lib.hid hkey
            clear hkey
            go_region_held3 (fun w' => w'.cell? ⟨wr.heap.size, 0, none⟩ = some (.int .u32 xt) ∧ w'.cell? ⟨wr.heap.size, 1, none⟩ = some (.int .u16 xi) ∧ w'.cell? ⟨wr.heap.size, 2, none⟩ = some (.slice ax nx cx) ∧ w'.cell? ⟨g', k * 3, none⟩ = some (.int .u32 xt) ∧ w'.cell? ⟨g', k * 3 + 1, none⟩ = some (.int .u16 xi) ∧ w'.cell? ⟨g', k * 3 + 2, none⟩ = some (.slice ay ny cy))
              (first | go_keep | exact HKEY.out _ hm2)
              (first | (go_at_call 20; refine (HSW.out _ hmW.drew).mono ?_; rintro e w2 ⟨rfl, hm2⟩))
            have hmF := hm.trans (hmW.drew.trans hm2)
            cases D with
            | true =>
              go_wp2_with fail
              go_roundw
              case rel =>
                refine ⟨k + 1, by omega, by go_num, fun j x' y' hj hx' hy' => ?_, hmF⟩
                by_cases h : j < k
                · exact HS.out j x' y' h hx' hy'
                · obtain rfl : j = k := by omega
                  rw [HXK.out] at hx'
                  rw [HYK.out] at hy'
                  cases hx'
                  cases hy'
                  exact HF.out
              case measure => simp [intOf]; omega
            | false =>
              have HF2 := Lib.hid (HFL.out HF.out)
              go_wp2_with fail
              go_ret
              exact ⟨false, rfl, HF2.out, hmF⟩
          · have hF : sameIt x y = false := by rw [HR.out]; simp [hid]
            have HF := Lib.hid (HFL.out hF)
            clear hF
            have hd : (xi == yi) = false := by simpa using hid
            have hd' : (xi != yi) = true := by simpa using hid
            subst ht
            have hb1 : (xt != xt) = false := by simp
            have hb3 : (xt == xt) = true := by simp
            clear hid
            go_wp2_with fail
            go_quiet (fail)
            go_wp2_with fail
            go_ret
            exact ⟨false, rfl, HF.out, (hm.alloc _).drewN _⟩
        · have hF : sameIt x y = false := by rw [HR.out]; simp [ht]
          have HF := Lib.hid (HFL.out hF)
          clear hF
          have hd : (xt == yt) = false := by simpa using ht
          have hd' : (xt != yt) = true := by simpa using ht
          clear ht
          go_wp2_with fail
          go_quiet (fail)
          go_wp2_with fail
          go_ret
          exact ⟨false, rfl, HF.out, (hm.alloc _).drewN _⟩
      · obtain rfl : k = n := by omega
        go_wp2_with fail
        go_ret
        refine ⟨true, rfl, ⟨fun _ => ⟨trivial, fun j x y hx hy => HS.out j x y (by have := (List.getElem?_eq_some_iff.1 hx).1; have := HL.out; omega) hx hy⟩, fun _ => rfl⟩, hm⟩
  · have hb : ((n : Int) == (n' : Int)) = false := by simp; omega
    have hb' : ((n : Int) != (n' : Int)) = true := by simp; omega
    go_enter Try.func16, Try.ntmps16
    go_wp2_with fail
    go_ret
    exact ⟨false, rfl, by simp [hnn], Mod.refl _ _⟩
end Go.Proofs.Ytelfhcojpigkoaa
