/- The law PlanPlays: its walk. -/
import Derived.Test.YtelfhcojpigkoaaPlays0
import Derived.Test.YtelfhcojpigkoaaRegG
namespace Go.Proofs.Ytelfhcojpigkoaa
open Go Go.RowKit

/-- An act at a place. -/
def ActAt (w : World) (b o : Nat) (d t id : Int) (x : Option Addr) (xn xc : Nat) (by_ : Int) (on : Bool) : Prop :=
  w.cell? ⟨b, o, none⟩ = some (.int .u8 d) ∧ w.cell? ⟨b, o + 1, none⟩ = some (.int .u32 t) ∧ w.cell? ⟨b, o + 2, none⟩ = some (.int .u16 id) ∧ w.cell? ⟨b, o + 3, none⟩ = some (.slice x xn xc) ∧ w.cell? ⟨b, o + 4, none⟩ = some (.int .i32 by_) ∧ w.cell? ⟨b, o + 5, none⟩ = some (.bool on)
def ActsAt (w : World) (a : Option Addr) (n : Nat) : Prop := ∀ k, k < n → ∃ (b o : Nat) (d t id : Int) (x : Option Addr) (xn xc : Nat) (by_ : Int) (on : Bool) (xs : List Int), a = some ⟨b, o, none⟩ ∧ ActAt w b (o + k * 6) d t id x xn xc by_ on ∧
  (0 ≤ d ∧ d ≤ 255) ∧ (0 ≤ t ∧ t < 4294967296) ∧ (-2147483648 ≤ by_ ∧ by_ < 2147483648) ∧ xs.length = xn ∧ xn ≤ 9223372036854775807 ∧ Rd w x (bv xs)
theorem ActAt.nob {w w' : World} {b o : Nat} {d t id : Int} {x : Option Addr} {xn xc : Nat} {by_ : Int} {on : Bool} (h : ActAt w b o d t id x xn xc by_ on) (hm : Mod NoB w w') : ActAt w' b o d t id x xn xc by_ on := by
  obtain ⟨h0, h1, h2, h3, h4, h5⟩ := h
  exact ⟨hm.cell h0 (fun h => h), hm.cell h1 (fun h => h), hm.cell h2 (fun h => h), hm.cell h3 (fun h => h), hm.cell h4 (fun h => h), hm.cell h5 (fun h => h)⟩
/-- What stands at the head of a round. -/
def Inv (w0 : World) (B : Nat) (wr : World) (p x M : Nat) : Prop := ∃ v ml L vx R off, Both B wr p x v M ml L vx R off ∧ Mod NoB w0 wr
theorem own_src {w : World} {B n c : Nat} {a : Option Addr} {xs : List Int} (h : w.ownsRow B 5 1 (.slice a n c) n (bv xs)) (hn : (bv xs).length = n) : (Value.slice a n c = .slice none 0 0 ∧ bv xs = []) ∨ ∃ x y, Value.slice a n c = .slice (some x) (bv xs).length y ∧ Arr w x (bv xs) := by
  rw [hn]
  rcases h.2 with ⟨h1, h0⟩ | ⟨g, cap, cur, h1, -⟩
  · exact .inl ⟨h1, List.eq_nil_of_length_eq_zero (by omega)⟩
  · cases h1
    exact .inr ⟨_, _, rfl, (Rd.of_own h).arr⟩

/-- Between two times. -/
def inq (f t : Int) (y : It) : Bool := !(decide (y.t < f) || decide (t < y.t))
set_option maxHeartbeats 8000000 in
set_option maxRecDepth 20000 in
theorem plays_walk (w : World) (a : Option Addr) (n c : Nat) (f t : Int) (hn : n ≤ 9223372036854775807) (hacts : ActsAt w a n) (hf : 0 ≤ f ∧ f < 4294967296) (ht : 0 ≤ t ∧ t < 4294967296) :
    Calls Try.prog 4 #[.slice a n c, .int .u32 f, .int .u32 t] w fun e w' => e = .returned (.bool true) ∧ Mod NoB w w' := by
  have HACT := Lib.hid hacts
  clear hacts
  go_enter Try.func4, Try.ntmps4
  go_wp2_with fail
  refine (awake_walk _).mono ?_
  rintro e w1 ⟨rfl, hm1⟩
  go_wp2_with fail
  refine (new_walk w1).mono ?_
  rintro e w2 ⟨p, M, rfl, hP2, hm2⟩
  have hblk := Blk.new w2 39 [.slice none 0 0, .bool false]
  have hma : Mod NoB w2 (w2.alloc (.cells [Value.slice none 0 0, .bool false].toArray 39)) := (Mod.refl _ _).alloc _
  have hB0 : Both w1.heap.size (w2.alloc (.cells [Value.slice none 0 0, .bool false].toArray 39)) p w2.heap.size (.slice none 0 0) M [] [] (.slice none 0 0) [] false :=
    ⟨hP2.mod hma (fun _ _ h => h), ⟨hblk, World.ownsRow_nil _ _ _ _, by simp, hm2.size, by simp⟩, rfl, fun y hy => by cases hy⟩
  have hI : Inv w w1.heap.size (w2.alloc (.cells [Value.slice none 0 0, .bool false].toArray 39)) p w2.heap.size M := ⟨_, _, _, _, _, _, hB0, (hm1.trans hm2).trans hma⟩
  have HI := Lib.hid hI
  have hBw : w.heap.size ≤ w1.heap.size := hm1.size
  obtain ⟨x, hx⟩ : ∃ x, x = w2.heap.size := ⟨_, rfl⟩
  obtain ⟨B, hB⟩ : ∃ B, B = w1.heap.size := ⟨_, rfl⟩
  rw [← hx, ← hB] at HI
  rw [← hB] at hBw
  have HX := Lib.hid hx
  clear hI hB0 hma hblk hP2 hx hB
  go_wp2_with fail
  rw [← HX.out]
  go_loopw [27] (fun i wr => ∃ k : Nat, k ≤ n ∧ i = .int .i64 k ∧ Inv w B wr p x M) (fun i _ => n - (intOf i).toNat)
  case atStart => exact ⟨0, Nat.zero_le _, rfl, HI.out⟩
  case round =>
    obtain ⟨k, hk, rfl, v, ml, L, vx, R, off, hb, hm⟩ := hrel
    by_cases hgo : k < n ∧ k < 60
    · obtain ⟨hlt, h60⟩ := hgo
      obtain ⟨b, o, d, at_, id, y, yn, yc, by_, on, ys, rfl, hact, hd, hat, hby, hys, hyn, hyr⟩ := HACT.out k hlt
      obtain ⟨c0, c1, c2, c3, c4, c5⟩ := hact.nob hm
      have hyr := hyr.nob hm
      have hbx := Blk.new wr 41 [Value.int .u8 d, .int .u32 at_, .int .u16 id, .slice y yn yc, .int .i32 by_, .bool on]
      have hmx : Mod NoB wr (wr.alloc (.cells [Value.int .u8 d, .int .u32 at_, .int .u16 id, .slice y yn yc, .int .i32 by_, .bool on].toArray 41)) := (Mod.refl _ _).alloc _
      clear hact
      go_wp2_with fail
      refine (cut_walk _ y yn yc ys 230 hys hyn (by omega) (hyr.nob hmx)).mono ?_
      rintro e w3 ⟨a3, c3', rfl, ho3, hm3⟩
      obtain ⟨m, hm'⟩ : ∃ m, m = min 230 yn := ⟨_, rfl⟩
      obtain ⟨ts, hts⟩ : ∃ ts, ts = ys.take 230 := ⟨_, rfl⟩
      have htl : ts.length = m := by rw [hts, hm', List.length_take, hys]
      rw [← hm', ← hts] at ho3
      rw [← hm']
      have htl' : (bv ts).length = m := by rw [bv_length, htl]
      have HTL := Lib.hid htl'
      clear hm' hts htl htl'
      have hb3 := hbx.mod hm3 (fun h => h)
      have q0 := hb3.cell 0
      have q1 := hb3.cell 1
      have q2 := hb3.cell 2
      have q3 := hb3.cell 3
      have q4 := hb3.cell 4
      have q5 := hb3.cell 5
      have qf := hb3.frozen 3
      simp at q0 q1 q2 q3 q4 q5
      have hb4 := hb3.setCell 3 (.slice a3 m c3')
      have hset : Mod (· = wr.heap.size) w3 (w3.setCell ⟨wr.heap.size, 3, none⟩ (.slice a3 m c3')) := (Mod.refl _ _).setCell _ (fun _ => rfl)
      have hmr : Mod NoB wr (w3.setCell ⟨wr.heap.size, 3, none⟩ (.slice a3 m c3')) := (hmx.trans hm3).trans' hset (fun k' hk' e => by omega)
      have hsz : wr.heap.size ≤ w3.heap.size := (hmx.trans hm3).size
      have ho4 : (w3.setCell ⟨wr.heap.size, 3, none⟩ (.slice a3 m c3')).ownsRow B 5 1 (.slice a3 m c3') m (bv ts) := by
        refine own_mono (hset.own ho3 (fun g hg e => own_ne_blk ho3 hb3 (by decide) (by rw [hg, e]))) ?_
        have := hb.pl.low; have := hb.pl.blk.lt; simp; omega
      have hbo := hb.nob hmr
      go_wp2_with fail
      have hxwr : x < wr.heap.size := hb.rf.blk.lt
      have hpwr : p < wr.heap.size := hb.pl.blk.lt
      obtain ⟨w4, hw4⟩ : ∃ w4, w4 = w3.setCell ⟨wr.heap.size, 3, none⟩ (.slice a3 m c3') := ⟨_, rfl⟩
      rw [← hw4] at hb4 hmr ho4 hbo ⊢
      have hnk := hbo.nks
      obtain ⟨r, D, K', off', hS⟩ : ∃ r D K' off', (r, D, K', off') = stepS (nk L) off d at_ id (bv ts) by_ on := ⟨_, _, _, _, rfl⟩
      have hbyS := stepS_byts (off := off) (d := d) (t := at_) (id := id) (by_ := by_) (on := on) (nrm_byts hb.byt) (⟨ts, rfl⟩ : ∃ zs, bv ts = bv zs)
      rw [← hS] at hbyS
      have hDl := stepS_len (K := nk L) (off := off) (d := d) (t := at_) (id := id) (tc := bv ts) (by_ := by_) (on := on)
      rw [← hS] at hDl
      simp only [nk_length] at hDl
      have hrs := ref_step hbo.rf d at_ id a3 m c3' by_ on hd hat hby (bv ts) HTL.out ho4 (bv_ones ts) hbo.rsrt hbo.runiq hbo.rrng
      rw [← hnk, ← hS] at hrs
      refine hrs.mono ?_
      rintro e w5 ⟨oa, oc, outR, vx5, R5, rfl, ho5, hnk5, ht5, hR5, hnR5, hm5, hv5⟩
      simp only [] at hnk5 hnR5 hbyS hR5
      have hap := plan_apart hbo.pl hbo.rf
      have hP5 := hbo.pl.mod2 hm5 hap.1 hap.2.1 hap.2.2.1 hap.2.2.2
      have hqx : ¬ rfoot x vx wr.heap.size := by
        rintro (h | h)
        · omega
        · have := own_lt hb.rf.own h; omega
      have hb5 := hb4.mod hm5 hqx
      have r0 := hb5.cell 0
      have r1 := hb5.cell 1
      have r2 := hb5.cell 2
      have r3 := hb5.cell 3
      have r4 := hb5.cell 4
      have r5 := hb5.cell 5
      simp at r0 r1 r2 r3 r4 r5
      have hmw5 : Mod NoB w w5 := (hm.trans hmr).trans' hm5 (fun k' hk' e => hbo.rf.below k' (by omega) e)
      have hps := plan_step hP5 d at_ id a3 m c3' by_ on hd hat hby (bv ts) HTL.out (own_src (hm5.own ho4 (fun g hg e => by
        rcases e with e | e
        · exact own_ne_blk ho4 hbo.rf.blk (by decide) (by rw [hg, e])
        · exact own_ne_own ho4 hbo.rf.own (by decide) g hg e)) HTL.out) (bv_ones ts)
      rw [← hS] at hps
      have HPS := Lib.hid hps
      have HK5 := Lib.hid hnk5
      have HKR5 := Lib.hid hnR5
      clear hps hrs hS hnk hnk5 hnR5 hw4
      go_wp2_with fail
      refine HPS.out.mono ?_
      rintro e w6 ⟨la, lc, outL, v6, ml6, L6, rfl, ho6, hnk6, ht6, hP6, hnL6, hm6, hv6⟩
      simp only [] at hnk6 hnL6 hP6
      have hra := ref_apart hP5 hR5
      have hR6 := hR5.mod hm6 hra.1 hra.2.1 hra.2.2
      have ho56 := hm6.own ho5 (fun g hg e => by
        rcases e with e | e | e
        · exact own_ne_blk ho5 hP5.blk (by decide) (by rw [hg, e])
        · exact own_ne_map ho5 hP5.map (by rw [hg, e])
        · exact own_ne_own ho5 hP5.own (by decide) g hg e)
      have ht56 : ∀ y ∈ outR, TcAt w6 B y := fun y hy => (ht5 y hy).mod hm6 (fun g hg => hP5.apart (ht5 y hy) g hg)
      have hmw6 : Mod NoB w w6 := hmw5.trans' hm6 (fun k' hk' e => hP5.below k' (by omega) e)
      have hkk : nk outL = nk outR := by rw [hnk6, HK5.out]
      have hby6 : Byts L6 := byts_nrm (by rw [hnL6]; exact hbyS.2)
      have hbyO : Byts outL := byts_nrm (by rw [hnk6]; exact hbyS.1)
      have hB6 : Both B w6 p x v6 M ml6 L6 vx5 R5 off' := ⟨hP6, hR6, by rw [hnL6, HKR5.out], hby6⟩
      have hOl : outL.length ≤ 1000 := by
        have h1 : outL.length = D.length := by rw [← nk_length, hnk6]
        have := hb.pl.few
        omega
      obtain ⟨nO, hnO⟩ : ∃ nO, nO = outL.length := ⟨_, rfl⟩
      have hnO' : outR.length = nO := by rw [hnO, nk_len hkk]
      rw [hnO'] at ho56 ⊢
      rw [← hnO] at ho6 hOl ⊢
      have hsame := sames_ok hkk hbyO hnO.symm hOl ho6 ho56 ht6 ht56
      have HSAME := Lib.hid hsame
      obtain ⟨ra, rc, hvx⟩ := own_slice hR6.own
      obtain ⟨N, hN⟩ : ∃ N, N = L6.length := ⟨_, rfl⟩
      have hNR : R5.length = N := by rw [hN, nk_len hB6.nks]
      rw [hNR] at hvx
      have hlike := hB6.like hN.symm hvx
      have HLIKE := Lib.hid hlike
      have hlen : ∀ W, Mod NoB w6 W → Calls Try.prog 10 #[.pointer (some ⟨p, 0, none⟩)] W fun e w' => e = .returned (.int .i64 N) ∧ w' = W := fun W hW => by rw [hN]; exact len_walk (hB6.nob hW).pl
      have hen : ∀ W, Mod NoB w6 W → Calls Try.prog 18 #[.pointer (some ⟨p, 0, none⟩)] W fun e w' => e = .returned (.bool (!off')) ∧ w' = W := fun W hW => enabled_walk (hB6.nob hW).pl
      have HLEN := Lib.hid hlen
      have HEN := Lib.hid hen
      have hnext := next_some hB6.pl
      rw [← hN] at hnext
      have HNEXT := Lib.hid hnext
      have x0 := hB6.rf.blk.cell 0
      have x1 := hB6.rf.blk.cell 1
      simp at x0 x1
      rw [hvx] at x0
      have HN := Lib.hid hN
      have HNR := Lib.hid hNR
      have HV := Lib.hid hvx
      have HKL := Lib.hid hnL6
      clear hN hNR hvx hnO hnO' hkk hnk6 hnL6 hsame hlike hlen hen hnext
      go_wp2_with fail
      refine HNEXT.out.mono ?_
      rintro e w7 ⟨⟨tt, rfl, htt⟩, hw7⟩
      subst hw7
      have hrr : (r != r) = false := by simp
      have hNN : ((N : Int) != (N : Int)) = false := by simp
      by_cases hN0 : N = 0
      · subst hN0
        rw [show decide (0 < 0) = false from rfl]
        go_wp2_with fail
        have mD : Mod NoB w6 w6.drew := (Mod.refl _ w6).drew
        refine wp_region_noPanic ?_
        refine wp_region_G (fun _ w' => w'.cell? ⟨x, 0, none⟩ = some (.slice ra 0 rc) ∧ w'.cell? ⟨x, 1, none⟩ = some (.bool off')) (by kernel_rfl) ?_
        have hS : w6.drew.cell? ⟨x, 0, none⟩ = some (.slice ra 0 rc) ∧ w6.drew.cell? ⟨x, 1, none⟩ = some (.bool off') := ⟨mD.cell x0 (fun h => h), mD.cell x1 (fun h => h)⟩
        refine wpAnyG_take' (i := 0) (oi := ⟨_, _, _, _, _, _⟩) (v := ?_) (fun _ => True) rfl (by kernel_rfl) (by kernel_rfl) (by kernel_rfl) (by kernel_rfl) (fun _ _ _ h => h) (fun _ _ => Iff.rfl) (fun _ _ _ _ _ => trivial) (Or.inl ⟨by rfl, ?_⟩) hS (fun hS => ?_)
        rotate_left 1
        · intro w hSw; (try dsimp only at hSw); go_simp
          try with_reducible rfl
        try simp only [Act.put, List.setIfInBounds_toArray, List.set_cons_zero, List.set_cons_succ]
        refine wpAnyG_take' (i := 1) (oi := ⟨_, _, _, _, _, _⟩) (v := ?_) (fun _ => True) rfl (by kernel_rfl) (by kernel_rfl) (by kernel_rfl) (by kernel_rfl) (fun _ _ _ h => h) (fun _ _ => Iff.rfl) (fun _ _ _ _ _ => trivial) (Or.inl ⟨by rfl, ?_⟩) hS (fun hS => ?_)
        rotate_left 1
        · intro w hSw; (try dsimp only at hSw); go_simp
          try with_reducible rfl
        try simp only [Act.put, List.setIfInBounds_toArray, List.set_cons_zero, List.set_cons_succ]
        refine wpAnyG_take' (i := 2) (oi := ⟨_, _, _, _, _, _⟩) (v := ?_) (fun _ => True) rfl (by kernel_rfl) (by kernel_rfl) (by kernel_rfl) (by kernel_rfl) (fun _ _ _ h => h) (fun _ _ => Iff.rfl) (fun _ _ _ _ _ => trivial) (Or.inl ⟨by rfl, ?_⟩) hS (fun hS => ?_)
        rotate_left 1
        · intro w hSw; (try dsimp only at hSw); go_simp
          try with_reducible rfl
        try simp only [Act.put, List.setIfInBounds_toArray, List.set_cons_zero, List.set_cons_succ]
        refine wpAnyG_take' (i := 3) (oi := ⟨_, _, _, _, _, _⟩) (v := ?_) (fun _ => True) rfl (by kernel_rfl) (by kernel_rfl) (by kernel_rfl) (by kernel_rfl) (fun _ _ _ h => h) (fun _ _ => Iff.rfl) (fun _ _ _ _ _ => trivial) (Or.inl ⟨by rfl, ?_⟩) hS (fun hS => ?_)
        rotate_left 1
        · intro w hSw; (try dsimp only at hSw); go_simp
          try with_reducible rfl
        try simp only [Act.put, List.setIfInBounds_toArray, List.set_cons_zero, List.set_cons_succ]
        refine wpAnyG_take' (i := 4) (oi := ⟨_, _, _, _, _, _⟩) (v := ?_) (fun _ => True) rfl (by kernel_rfl) (by kernel_rfl) (by kernel_rfl) (by kernel_rfl) (fun _ _ _ h => h) (fun _ _ => Iff.rfl) (fun _ _ _ _ _ => trivial) (Or.inl ⟨by rfl, ?_⟩) hS (fun hS => ?_)
        rotate_left 1
        · intro w hSw; (try dsimp only at hSw); go_simp
          try with_reducible rfl
        try simp only [Act.put, List.setIfInBounds_toArray, List.set_cons_zero, List.set_cons_succ]
        refine wpAnyG_take' (i := 5) (oi := ⟨_, _, _, _, _, _⟩) (v := ?_) (fun _ => True) rfl (by kernel_rfl) (by kernel_rfl) (by kernel_rfl) (by kernel_rfl) (fun _ _ _ h => h) (fun _ _ => Iff.rfl) (fun _ _ _ _ _ => trivial) (Or.inl ⟨by rfl, ?_⟩) hS (fun hS => ?_)
        rotate_left 1
        · intro w hSw; (try dsimp only at hSw); go_simp
          try with_reducible rfl
        try simp only [Act.put, List.setIfInBounds_toArray, List.set_cons_zero, List.set_cons_succ]
        refine wpAnyG_one (k := 6) (o := ⟨_, _, _, _, _, _⟩) (by kernel_rfl) rfl ?_
        intro K hK
        have HK := Lib.hid hK
        clear hK
        go_simp
        go_at_call 15
        refine (HSAME.out _ mD).mono ?_
        rintro e w8 ⟨rfl, hm8⟩
        have g8 := mD.trans hm8
        go_wp2_with fail
        refine HK.out _ _ ⟨g8.cell x0 (fun h => h), g8.cell x1 (fun h => h)⟩ (fun hS => ?_)
        clear HK K
        try simp only [Act.put, List.setIfInBounds_toArray, List.set_cons_zero, List.set_cons_succ]
        refine wpAnyG_take' (i := 7) (oi := ⟨_, _, _, _, _, _⟩) (v := ?_) (fun _ => True) rfl (by kernel_rfl) (by kernel_rfl) (by kernel_rfl) (by kernel_rfl) (fun _ _ _ h => h) (fun _ _ => Iff.rfl) (fun _ _ _ _ _ => trivial) (Or.inl ⟨by rfl, ?_⟩) hS (fun hS => ?_)
        rotate_left 1
        · intro w hSw; (try dsimp only at hSw); go_simp
          try with_reducible rfl
        try simp only [Act.put, List.setIfInBounds_toArray, List.set_cons_zero, List.set_cons_succ]
        refine wpAnyG_take' (i := 8) (oi := ⟨_, _, _, _, _, _⟩) (v := ?_) (fun _ => True) rfl (by kernel_rfl) (by kernel_rfl) (by kernel_rfl) (by kernel_rfl) (fun _ _ _ h => h) (fun _ _ => Iff.rfl) (fun _ _ _ _ _ => trivial) (Or.inl ⟨by rfl, ?_⟩) hS (fun hS => ?_)
        rotate_left 1
        · intro w hSw; (try dsimp only at hSw); go_simp
          try with_reducible rfl
        try simp only [Act.put, List.setIfInBounds_toArray, List.set_cons_zero, List.set_cons_succ]
        refine wpAnyG_take' (i := 9) (oi := ⟨_, _, _, _, _, _⟩) (v := ?_) (fun _ => True) rfl (by kernel_rfl) (by kernel_rfl) (by kernel_rfl) (by kernel_rfl) (fun _ _ _ h => h) (fun _ _ => Iff.rfl) (fun _ _ _ _ _ => trivial) (Or.inl ⟨by rfl, ?_⟩) hS (fun hS => ?_)
        rotate_left 1
        · intro w hSw; (try dsimp only at hSw); go_simp
          try with_reducible rfl
        try simp only [Act.put, List.setIfInBounds_toArray, List.set_cons_zero, List.set_cons_succ]
        refine wpAnyG_take' (i := 10) (oi := ⟨_, _, _, _, _, _⟩) (v := ?_) (fun _ => True) rfl (by kernel_rfl) (by kernel_rfl) (by kernel_rfl) (by kernel_rfl) (fun _ _ _ h => h) (fun _ _ => Iff.rfl) (fun _ _ _ _ _ => trivial) (Or.inl ⟨by rfl, ?_⟩) hS (fun hS => ?_)
        rotate_left 1
        · intro w hSw; (try dsimp only at hSw); go_simp
          try with_reducible rfl
        try simp only [Act.put, List.setIfInBounds_toArray, List.set_cons_zero, List.set_cons_succ]
        refine wpAnyG_take' (i := 12) (oi := ⟨_, _, _, _, _, _⟩) (v := ?_) (fun _ => True) rfl (by kernel_rfl) (by kernel_rfl) (by kernel_rfl) (by kernel_rfl) (fun _ _ _ h => h) (fun _ _ => Iff.rfl) (fun _ _ _ _ _ => trivial) (Or.inl ⟨by rfl, ?_⟩) hS (fun hS => ?_)
        rotate_left 1
        · intro w hSw; (try dsimp only at hSw); go_simp
          try with_reducible rfl
        try simp only [Act.put, List.setIfInBounds_toArray, List.set_cons_zero, List.set_cons_succ]
        refine wpAnyG_take' (i := 13) (oi := ⟨_, _, _, _, _, _⟩) (v := ?_) (fun _ => True) rfl (by kernel_rfl) (by kernel_rfl) (by kernel_rfl) (by kernel_rfl) (fun _ _ _ h => h) (fun _ _ => Iff.rfl) (fun _ _ _ _ _ => trivial) (Or.inl ⟨by rfl, ?_⟩) hS (fun hS => ?_)
        rotate_left 1
        · intro w hSw; (try dsimp only at hSw); go_simp
          try with_reducible rfl
        try simp only [Act.put, List.setIfInBounds_toArray, List.set_cons_zero, List.set_cons_succ]
        refine wpAnyG_take' (i := 14) (oi := ⟨_, _, _, _, _, _⟩) (v := ?_) (fun _ => True) rfl (by kernel_rfl) (by kernel_rfl) (by kernel_rfl) (by kernel_rfl) (fun _ _ _ h => h) (fun _ _ => Iff.rfl) (fun _ _ _ _ _ => trivial) (Or.inl ⟨by rfl, ?_⟩) hS (fun hS => ?_)
        rotate_left 1
        · intro w hSw; (try dsimp only at hSw); go_simp
          try with_reducible rfl
        try simp only [Act.put, List.setIfInBounds_toArray, List.set_cons_zero, List.set_cons_succ]
        refine wpAnyG_take' (i := 15) (oi := ⟨_, _, _, _, _, _⟩) (v := ?_) (fun w' => w'.cell? ⟨x, 0, none⟩ = some (.slice ra 0 rc)) rfl (by kernel_rfl) (by kernel_rfl) (by kernel_rfl) (by kernel_rfl) (fun _ _ _ h => h) (fun _ _ => Iff.rfl) (fun _ _ _ _ h => h.1) (Or.inl ⟨by rfl, ?_⟩) hS (fun hS => ?_)
        rotate_left 1
        · intro w hSw; (try dsimp only at hSw); go_simp
          try with_reducible rfl
        try simp only [Act.put, List.setIfInBounds_toArray, List.set_cons_zero, List.set_cons_succ]
        refine wpAnyG_one (k := 11) (o := ⟨_, _, _, _, _, _⟩) (by kernel_rfl) rfl ?_
        intro K hK
        have HK := Lib.hid hK
        clear hK
        go_simp
        go_at_call 17
        refine (HLIKE.out _ g8).mono ?_
        rintro e w9 ⟨a9, c9, rfl, hm9, hlk⟩
        have g9 := g8.trans hm9
        have HLK := Lib.hid hlk
        clear hlk
        go_wp2_with fail
        refine HK.out _ _ ⟨g9.cell x0 (fun h => h), g9.cell x1 (fun h => h)⟩ (fun hS => ?_)
        clear HK K
        try simp only [Act.put, List.setIfInBounds_toArray, List.set_cons_zero, List.set_cons_succ]
        refine wpAnyG_one (k := 16) (o := ⟨_, _, _, _, _, _⟩) (by kernel_rfl) rfl ?_
        intro K hK
        have HK := Lib.hid hK
        clear hK
        go_simp
        go_at_call 16
        refine (HLK.out _ (Mod.refl _ _)).mono ?_
        rintro e w10 ⟨rfl, hm10⟩
        have g10 := g9.trans hm10
        go_wp2_with fail
        refine HK.out _ _ ⟨g10.cell x0 (fun h => h), g10.cell x1 (fun h => h)⟩ (fun hS => ?_)
        clear HK K
        try simp only [Act.put, List.setIfInBounds_toArray, List.set_cons_zero, List.set_cons_succ]
        refine wpAnyG_take' (i := 17) (oi := ⟨_, _, _, _, _, _⟩) (v := ?_) (fun _ => True) rfl (by kernel_rfl) (by kernel_rfl) (by kernel_rfl) (by kernel_rfl) (fun _ _ _ h => h) (fun _ _ => Iff.rfl) (fun _ _ _ _ _ => trivial) (Or.inl ⟨by rfl, ?_⟩) hS (fun hS => ?_)
        rotate_left 1
        · intro w hSw; (try dsimp only at hSw); go_simp
          try with_reducible rfl
        try simp only [Act.put, List.setIfInBounds_toArray, List.set_cons_zero, List.set_cons_succ]
        refine wpAnyG_take' (i := 18) (oi := ⟨_, _, _, _, _, _⟩) (v := ?_) (fun _ => True) rfl (by kernel_rfl) (by kernel_rfl) (by kernel_rfl) (by kernel_rfl) (fun _ _ _ h => h) (fun _ _ => Iff.rfl) (fun _ _ _ _ _ => trivial) (Or.inl ⟨by rfl, ?_⟩) hS (fun hS => ?_)
        rotate_left 1
        · intro w hSw; (try dsimp only at hSw); go_simp
          try with_reducible rfl
        try simp only [Act.put, List.setIfInBounds_toArray, List.set_cons_zero, List.set_cons_succ]
        refine wpAnyG_take' (i := 19) (oi := ⟨_, _, _, _, _, _⟩) (v := ?_) (fun _ => True) rfl (by kernel_rfl) (by kernel_rfl) (by kernel_rfl) (by kernel_rfl) (fun _ _ _ h => h) (fun _ _ => Iff.rfl) (fun _ _ _ _ _ => trivial) (Or.inl ⟨by rfl, ?_⟩) hS (fun hS => ?_)
        rotate_left 1
        · intro w hSw; (try dsimp only at hSw); go_simp
          try with_reducible rfl
        try simp only [Act.put, List.setIfInBounds_toArray, List.set_cons_zero, List.set_cons_succ]
        refine wpAnyG_take' (i := 20) (oi := ⟨_, _, _, _, _, _⟩) (v := ?_) (fun _ => True) rfl (by kernel_rfl) (by kernel_rfl) (by kernel_rfl) (by kernel_rfl) (fun _ _ _ h => h) (fun _ _ => Iff.rfl) (fun _ _ _ _ _ => trivial) (Or.inl ⟨by rfl, ?_⟩) hS (fun hS => ?_)
        rotate_left 1
        · intro w hSw; (try dsimp only at hSw); go_simp
          try with_reducible rfl
        try simp only [Act.put, List.setIfInBounds_toArray, List.set_cons_zero, List.set_cons_succ]
        refine wpAnyG_take' (i := 22) (oi := ⟨_, _, _, _, _, _⟩) (v := ?_) (fun _ => True) rfl (by kernel_rfl) (by kernel_rfl) (by kernel_rfl) (by kernel_rfl) (fun _ _ _ h => h) (fun _ _ => Iff.rfl) (fun _ _ _ _ _ => trivial) (Or.inl ⟨by rfl, ?_⟩) hS (fun hS => ?_)
        rotate_left 1
        · intro w hSw; (try dsimp only at hSw); go_simp
          try with_reducible rfl
        try simp only [Act.put, List.setIfInBounds_toArray, List.set_cons_zero, List.set_cons_succ]
        refine wpAnyG_take' (i := 23) (oi := ⟨_, _, _, _, _, _⟩) (v := ?_) (fun _ => True) rfl (by kernel_rfl) (by kernel_rfl) (by kernel_rfl) (by kernel_rfl) (fun _ _ _ h => h) (fun _ _ => Iff.rfl) (fun _ _ _ _ _ => trivial) (Or.inl ⟨by rfl, ?_⟩) hS (fun hS => ?_)
        rotate_left 1
        · intro w hSw; (try dsimp only at hSw); go_simp
          try with_reducible rfl
        try simp only [Act.put, List.setIfInBounds_toArray, List.set_cons_zero, List.set_cons_succ]
        refine wpAnyG_take' (i := 24) (oi := ⟨_, _, _, _, _, _⟩) (v := ?_) (fun _ => True) rfl (by kernel_rfl) (by kernel_rfl) (by kernel_rfl) (by kernel_rfl) (fun _ _ _ h => h) (fun _ _ => Iff.rfl) (fun _ _ _ _ _ => trivial) (Or.inl ⟨by rfl, ?_⟩) hS (fun hS => ?_)
        rotate_left 1
        · intro w hSw; (try dsimp only at hSw); go_simp
          try with_reducible rfl
        try simp only [Act.put, List.setIfInBounds_toArray, List.set_cons_zero, List.set_cons_succ]
        refine wpAnyG_take' (i := 25) (oi := ⟨_, _, _, _, _, _⟩) (v := ?_) (fun w' => w'.cell? ⟨x, 0, none⟩ = some (.slice ra 0 rc)) rfl (by kernel_rfl) (by kernel_rfl) (by kernel_rfl) (by kernel_rfl) (fun _ _ _ h => h) (fun _ _ => Iff.rfl) (fun _ _ _ _ h => h.1) (Or.inl ⟨by rfl, ?_⟩) hS (fun hS => ?_)
        rotate_left 1
        · intro w hSw; (try dsimp only at hSw); go_simp
          try with_reducible rfl
        try simp only [Act.put, List.setIfInBounds_toArray, List.set_cons_zero, List.set_cons_succ]
        refine wpAnyG_take' (i := 26) (oi := ⟨_, _, _, _, _, _⟩) (v := ?_) (fun _ => True) rfl (by kernel_rfl) (by kernel_rfl) (by kernel_rfl) (by kernel_rfl) (fun _ _ _ h => h) (fun _ _ => Iff.rfl) (fun _ _ _ _ _ => trivial) (Or.inl ⟨by rfl, ?_⟩) hS (fun hS => ?_)
        rotate_left 1
        · intro w hSw; (try dsimp only at hSw); go_simp
          try with_reducible rfl
        try simp only [Act.put, List.setIfInBounds_toArray, List.set_cons_zero, List.set_cons_succ]
        refine wpAnyG_one (k := 21) (o := ⟨_, _, _, _, _, _⟩) (by kernel_rfl) rfl ?_
        intro K hK
        have HK := Lib.hid hK
        clear hK
        go_simp
        go_at_call 10
        refine (HLEN.out _ g10).mono ?_
        rintro e w11 ⟨rfl, h⟩
        obtain rfl := h.symm
        go_wp2_with fail
        refine HK.out _ _ ⟨g10.cell x0 (fun h => h), g10.cell x1 (fun h => h)⟩ (fun hS => ?_)
        clear HK K
        try simp only [Act.put, List.setIfInBounds_toArray, List.set_cons_zero, List.set_cons_succ]
        refine wpAnyG_take' (i := 27) (oi := ⟨_, _, _, _, _, _⟩) (v := ?_) (fun _ => True) rfl (by kernel_rfl) (by kernel_rfl) (by kernel_rfl) (by kernel_rfl) (fun _ _ _ h => h) (fun _ _ => Iff.rfl) (fun _ _ _ _ _ => trivial) (Or.inl ⟨by rfl, ?_⟩) hS (fun hS => ?_)
        rotate_left 1
        · intro w hSw; (try dsimp only at hSw); go_simp
          try with_reducible rfl
        try simp only [Act.put, List.setIfInBounds_toArray, List.set_cons_zero, List.set_cons_succ]
        refine wpAnyG_take' (i := 28) (oi := ⟨_, _, _, _, _, _⟩) (v := ?_) (fun _ => True) rfl (by kernel_rfl) (by kernel_rfl) (by kernel_rfl) (by kernel_rfl) (fun _ _ _ h => h) (fun _ _ => Iff.rfl) (fun _ _ _ _ _ => trivial) (Or.inl ⟨by rfl, ?_⟩) hS (fun hS => ?_)
        rotate_left 1
        · intro w hSw; (try dsimp only at hSw); go_simp
          try with_reducible rfl
        try simp only [Act.put, List.setIfInBounds_toArray, List.set_cons_zero, List.set_cons_succ]
        refine wpAnyG_take' (i := 29) (oi := ⟨_, _, _, _, _, _⟩) (v := ?_) (fun _ => True) rfl (by kernel_rfl) (by kernel_rfl) (by kernel_rfl) (by kernel_rfl) (fun _ _ _ h => h) (fun _ _ => Iff.rfl) (fun _ _ _ _ _ => trivial) (Or.inl ⟨by rfl, ?_⟩) hS (fun hS => ?_)
        rotate_left 1
        · intro w hSw; (try dsimp only at hSw); go_simp
          try with_reducible rfl
        try simp only [Act.put, List.setIfInBounds_toArray, List.set_cons_zero, List.set_cons_succ]
        refine wpAnyG_take' (i := 30) (oi := ⟨_, _, _, _, _, _⟩) (v := ?_) (fun _ => True) rfl (by kernel_rfl) (by kernel_rfl) (by kernel_rfl) (by kernel_rfl) (fun _ _ _ h => h) (fun _ _ => Iff.rfl) (fun _ _ _ _ _ => trivial) (Or.inl ⟨by rfl, ?_⟩) hS (fun hS => ?_)
        rotate_left 1
        · intro w hSw; (try dsimp only at hSw); go_simp
          try with_reducible rfl
        try simp only [Act.put, List.setIfInBounds_toArray, List.set_cons_zero, List.set_cons_succ]
        refine wpAnyG_take' (i := 32) (oi := ⟨_, _, _, _, _, _⟩) (v := ?_) (fun _ => True) rfl (by kernel_rfl) (by kernel_rfl) (by kernel_rfl) (by kernel_rfl) (fun _ _ _ h => h) (fun _ _ => Iff.rfl) (fun _ _ _ _ _ => trivial) (Or.inl ⟨by rfl, ?_⟩) hS (fun hS => ?_)
        rotate_left 1
        · intro w hSw; (try dsimp only at hSw); go_simp
          try with_reducible rfl
        try simp only [Act.put, List.setIfInBounds_toArray, List.set_cons_zero, List.set_cons_succ]
        refine wpAnyG_take' (i := 33) (oi := ⟨_, _, _, _, _, _⟩) (v := ?_) (fun _ => True) rfl (by kernel_rfl) (by kernel_rfl) (by kernel_rfl) (by kernel_rfl) (fun _ _ _ h => h) (fun _ _ => Iff.rfl) (fun _ _ _ _ _ => trivial) (Or.inl ⟨by rfl, ?_⟩) hS (fun hS => ?_)
        rotate_left 1
        · intro w hSw; (try dsimp only at hSw); go_simp
          try with_reducible rfl
        try simp only [Act.put, List.setIfInBounds_toArray, List.set_cons_zero, List.set_cons_succ]
        refine wpAnyG_take' (i := 34) (oi := ⟨_, _, _, _, _, _⟩) (v := ?_) (fun _ => True) rfl (by kernel_rfl) (by kernel_rfl) (by kernel_rfl) (by kernel_rfl) (fun _ _ _ h => h) (fun _ _ => Iff.rfl) (fun _ _ _ _ _ => trivial) (Or.inl ⟨by rfl, ?_⟩) hS (fun hS => ?_)
        rotate_left 1
        · intro w hSw; (try dsimp only at hSw); go_simp
          try with_reducible rfl
        try simp only [Act.put, List.setIfInBounds_toArray, List.set_cons_zero, List.set_cons_succ]
        refine wpAnyG_take' (i := 35) (oi := ⟨_, _, _, _, _, _⟩) (v := ?_) (fun w' => w'.cell? ⟨x, 1, none⟩ = some (.bool off')) rfl (by kernel_rfl) (by kernel_rfl) (by kernel_rfl) (by kernel_rfl) (fun _ _ _ h => h) (fun _ _ => Iff.rfl) (fun _ _ _ _ h => h.2) (Or.inl ⟨by rfl, ?_⟩) hS (fun hS => ?_)
        rotate_left 1
        · intro w hSw; (try dsimp only at hSw); go_simp
          try with_reducible rfl
        try simp only [Act.put, List.setIfInBounds_toArray, List.set_cons_zero, List.set_cons_succ]
        refine wpAnyG_one (k := 31) (o := ⟨_, _, _, _, _, _⟩) (by kernel_rfl) rfl ?_
        intro K hK
        have HK := Lib.hid hK
        clear hK
        go_simp
        go_at_call 18
        refine (HEN.out _ g10).mono ?_
        rintro e w12 ⟨rfl, h⟩
        obtain rfl := h.symm
        go_wp2_with fail
        refine HK.out _ _ ⟨g10.cell x0 (fun h => h), g10.cell x1 (fun h => h)⟩ (fun hS => ?_)
        clear HK K
        try simp only [Act.put, List.setIfInBounds_toArray, List.set_cons_zero, List.set_cons_succ]
        refine wpAnyG_take' (i := 36) (oi := ⟨_, _, _, _, _, _⟩) (v := ?_) (fun _ => True) rfl (by kernel_rfl) (by kernel_rfl) (by kernel_rfl) (by kernel_rfl) (fun _ _ _ h => h) (fun _ _ => Iff.rfl) (fun _ _ _ _ _ => trivial) (Or.inl ⟨by rfl, ?_⟩) hS (fun hS => ?_)
        rotate_left 1
        · intro w hSw; (try dsimp only at hSw); go_simp
          try with_reducible rfl
        try simp only [Act.put, List.setIfInBounds_toArray, List.set_cons_zero, List.set_cons_succ]
        refine wpAnyG_take' (i := 37) (oi := ⟨_, _, _, _, _, _⟩) (v := ?_) (fun _ => True) rfl (by kernel_rfl) (by kernel_rfl) (by kernel_rfl) (by kernel_rfl) (fun _ _ _ h => h) (fun _ _ => Iff.rfl) (fun _ _ _ _ _ => trivial) (Or.inl ⟨by rfl, ?_⟩) hS (fun hS => ?_)
        rotate_left 1
        · intro w hSw; (try dsimp only at hSw); go_simp
          try with_reducible rfl
        try simp only [Act.put, List.setIfInBounds_toArray, List.set_cons_zero, List.set_cons_succ]
        refine wpAnyG_take' (i := 38) (oi := ⟨_, _, _, _, _, _⟩) (v := ?_) (fun _ => True) rfl (by kernel_rfl) (by kernel_rfl) (by kernel_rfl) (by kernel_rfl) (fun _ _ _ h => h) (fun _ _ => Iff.rfl) (fun _ _ _ _ _ => trivial) (Or.inl ⟨by rfl, ?_⟩) hS (fun hS => ?_)
        rotate_left 1
        · intro w hSw; (try dsimp only at hSw); go_simp
          try with_reducible rfl
        try simp only [Act.put, List.setIfInBounds_toArray, List.set_cons_zero, List.set_cons_succ]
        refine wpAnyG_take' (i := 39) (oi := ⟨_, _, _, _, _, _⟩) (v := ?_) (fun _ => True) rfl (by kernel_rfl) (by kernel_rfl) (by kernel_rfl) (by kernel_rfl) (fun _ _ _ h => h) (fun _ _ => Iff.rfl) (fun _ _ _ _ _ => trivial) (Or.inl ⟨by rfl, ?_⟩) hS (fun hS => ?_)
        rotate_left 1
        · intro w hSw; (try dsimp only at hSw); go_simp
          try with_reducible rfl
        try simp only [Act.put, List.setIfInBounds_toArray, List.set_cons_zero, List.set_cons_succ]
        refine wpAnyG_take' (i := 40) (oi := ⟨_, _, _, _, _, _⟩) (v := ?_) (fun _ => True) rfl (by kernel_rfl) (by kernel_rfl) (by kernel_rfl) (by kernel_rfl) (fun _ _ _ h => h) (fun _ _ => Iff.rfl) (fun _ _ _ _ _ => trivial) (Or.inl ⟨by rfl, ?_⟩) hS (fun hS => ?_)
        rotate_left 1
        · intro w hSw; (try dsimp only at hSw); go_simp
          try with_reducible rfl
        try simp only [Act.put, List.setIfInBounds_toArray, List.set_cons_zero, List.set_cons_succ]
        refine wpAnyG_take' (i := 41) (oi := ⟨_, _, _, _, _, _⟩) (v := ?_) (fun _ => True) rfl (by kernel_rfl) (by kernel_rfl) (by kernel_rfl) (by kernel_rfl) (fun _ _ _ h => h) (fun _ _ => Iff.rfl) (fun _ _ _ _ _ => trivial) (Or.inl ⟨by rfl, ?_⟩) hS (fun hS => ?_)
        rotate_left 1
        · intro w hSw; (try dsimp only at hSw); go_simp
          try with_reducible rfl
        try simp only [Act.put, List.setIfInBounds_toArray, List.set_cons_zero, List.set_cons_succ]
        refine wpAnyG_take' (i := 42) (oi := ⟨_, _, _, _, _, _⟩) (v := ?_) (fun _ => True) rfl (by kernel_rfl) (by kernel_rfl) (by kernel_rfl) (by kernel_rfl) (fun _ _ _ h => h) (fun _ _ => Iff.rfl) (fun _ _ _ _ _ => trivial) (Or.inl ⟨by rfl, ?_⟩) hS (fun hS => ?_)
        rotate_left 1
        · intro w hSw; (try dsimp only at hSw); go_simp
          try with_reducible rfl
        try simp only [Act.put, List.setIfInBounds_toArray, List.set_cons_zero, List.set_cons_succ]
        refine wpAnyG_take' (i := 43) (oi := ⟨_, _, _, _, _, _⟩) (v := ?_) (fun w' => w'.cell? ⟨x, 0, none⟩ = some (.slice ra 0 rc)) rfl (by kernel_rfl) (by kernel_rfl) (by kernel_rfl) (by kernel_rfl) (fun _ _ _ h => h) (fun _ _ => Iff.rfl) (fun _ _ _ _ h => h.1) (Or.inl ⟨by rfl, ?_⟩) hS (fun hS => ?_)
        rotate_left 1
        · intro w hSw; (try dsimp only at hSw); go_simp
          try with_reducible rfl
        try simp only [Act.put, List.setIfInBounds_toArray, List.set_cons_zero, List.set_cons_succ]
        refine wpAnyG_take' (i := 44) (oi := ⟨_, _, _, _, _, _⟩) (v := ?_) (fun _ => True) rfl (by kernel_rfl) (by kernel_rfl) (by kernel_rfl) (by kernel_rfl) (fun _ _ _ h => h) (fun _ _ => Iff.rfl) (fun _ _ _ _ _ => trivial) (Or.inl ⟨by rfl, ?_⟩) hS (fun hS => ?_)
        rotate_left 1
        · intro w hSw; (try dsimp only at hSw); go_simp
          try with_reducible rfl
        try simp only [Act.put, List.setIfInBounds_toArray, List.set_cons_zero, List.set_cons_succ]
        refine wpAnyG_take' (i := 45) (oi := ⟨_, _, _, _, _, _⟩) (v := ?_) (fun _ => True) rfl (by kernel_rfl) (by kernel_rfl) (by kernel_rfl) (by kernel_rfl) (fun _ _ _ h => h) (fun _ _ => Iff.rfl) (fun _ _ _ _ _ => trivial) (Or.inl ⟨by rfl, ?_⟩) hS (fun hS => ?_)
        rotate_left 1
        · intro w hSw; (try dsimp only at hSw); go_simp
          try with_reducible rfl
        try simp only [Act.put, List.setIfInBounds_toArray, List.set_cons_zero, List.set_cons_succ]
        refine wpAnyG_take' (i := 46) (oi := ⟨_, _, _, _, _, _⟩) (v := ?_) (fun _ => True) rfl (by kernel_rfl) (by kernel_rfl) (by kernel_rfl) (by kernel_rfl) (fun _ _ _ h => h) (fun _ _ => Iff.rfl) (fun _ _ _ _ _ => trivial) (Or.inl ⟨by rfl, ?_⟩) hS (fun hS => ?_)
        rotate_left 1
        · intro w hSw; (try dsimp only at hSw); go_simp
          try with_reducible rfl
        try simp only [Act.put, List.setIfInBounds_toArray, List.set_cons_zero, List.set_cons_succ]
        refine wpAnyG_take' (i := 47) (oi := ⟨_, _, _, _, _, _⟩) (v := ?_) (fun _ => True) rfl (by kernel_rfl) (by kernel_rfl) (by kernel_rfl) (by kernel_rfl) (fun _ _ _ h => h) (fun _ _ => Iff.rfl) (fun _ _ _ _ _ => trivial) (Or.inl ⟨by rfl, ?_⟩) hS (fun hS => ?_)
        rotate_left 1
        · intro w hSw; (try dsimp only at hSw); go_simp
          try with_reducible rfl
        try simp only [Act.put, List.setIfInBounds_toArray, List.set_cons_zero, List.set_cons_succ]
        refine wpAnyG_take' (i := 48) (oi := ⟨_, _, _, _, _, _⟩) (v := ?_) (fun _ => True) rfl (by kernel_rfl) (by kernel_rfl) (by kernel_rfl) (by kernel_rfl) (fun _ _ _ h => h) (fun _ _ => Iff.rfl) (fun _ _ _ _ _ => trivial) (Or.inl ⟨by rfl, ?_⟩) hS (fun hS => ?_)
        rotate_left 1
        · intro w hSw; (try dsimp only at hSw); go_simp
          try with_reducible rfl
        try simp only [Act.put, List.setIfInBounds_toArray, List.set_cons_zero, List.set_cons_succ]
        refine wpAnyG_take' (i := 49) (oi := ⟨_, _, _, _, _, _⟩) (v := ?_) (fun _ => True) rfl (by kernel_rfl) (by kernel_rfl) (by kernel_rfl) (by kernel_rfl) (fun _ _ _ h => h) (fun _ _ => Iff.rfl) (fun _ _ _ _ _ => trivial) (Or.inl ⟨by rfl, ?_⟩) hS (fun hS => ?_)
        rotate_left 1
        · intro w hSw; (try dsimp only at hSw); go_simp
          try with_reducible rfl
        try simp only [Act.put, List.setIfInBounds_toArray, List.set_cons_zero, List.set_cons_succ]
        refine wpAnyG_take' (i := 50) (oi := ⟨_, _, _, _, _, _⟩) (v := ?_) (fun _ => True) rfl (by kernel_rfl) (by kernel_rfl) (by kernel_rfl) (by kernel_rfl) (fun _ _ _ h => h) (fun _ _ => Iff.rfl) (fun _ _ _ _ _ => trivial) (Or.inl ⟨by rfl, ?_⟩) hS (fun hS => ?_)
        rotate_left 1
        · intro w hSw; (try dsimp only at hSw); go_simp
          try with_reducible rfl
        try simp only [Act.put, List.setIfInBounds_toArray, List.set_cons_zero, List.set_cons_succ]
        refine wpAnyG_take' (i := 51) (oi := ⟨_, _, _, _, _, _⟩) (v := undef) (fun _ => True) rfl (by kernel_rfl) (by kernel_rfl) (by kernel_rfl) (by kernel_rfl) (fun _ _ _ h => h) (fun _ _ => Iff.rfl) (fun _ _ _ _ _ => trivial) (Or.inr ⟨by rfl, rfl⟩) hS (fun hS => ?_)
        try simp only [Act.put, List.setIfInBounds_toArray, List.set_cons_zero, List.set_cons_succ]
        refine wpAnyG_take' (i := 52) (oi := ⟨_, _, _, _, _, _⟩) (v := undef) (fun _ => True) rfl (by kernel_rfl) (by kernel_rfl) (by kernel_rfl) (by kernel_rfl) (fun _ _ _ h => h) (fun _ _ => Iff.rfl) (fun _ _ _ _ _ => trivial) (Or.inr ⟨by rfl, rfl⟩) hS (fun hS => ?_)
        try simp only [Act.put, List.setIfInBounds_toArray, List.set_cons_zero, List.set_cons_succ]
        refine wpAnyG_take' (i := 53) (oi := ⟨_, _, _, _, _, _⟩) (v := undef) (fun _ => True) rfl (by kernel_rfl) (by kernel_rfl) (by kernel_rfl) (by kernel_rfl) (fun _ _ _ h => h) (fun _ _ => Iff.rfl) (fun _ _ _ _ _ => trivial) (Or.inr ⟨by rfl, rfl⟩) hS (fun hS => ?_)
        try simp only [Act.put, List.setIfInBounds_toArray, List.set_cons_zero, List.set_cons_succ]
        refine wpAnyG_take' (i := 54) (oi := ⟨_, _, _, _, _, _⟩) (v := undef) (fun _ => True) rfl (by kernel_rfl) (by kernel_rfl) (by kernel_rfl) (by kernel_rfl) (fun _ _ _ h => h) (fun _ _ => Iff.rfl) (fun _ _ _ _ _ => trivial) (Or.inr ⟨by rfl, rfl⟩) hS (fun hS => ?_)
        try simp only [Act.put, List.setIfInBounds_toArray, List.set_cons_zero, List.set_cons_succ]
        refine wpAnyG_take' (i := 55) (oi := ⟨_, _, _, _, _, _⟩) (v := undef) (fun _ => True) rfl (by kernel_rfl) (by kernel_rfl) (by kernel_rfl) (by kernel_rfl) (fun _ _ _ h => h) (fun _ _ => Iff.rfl) (fun _ _ _ _ _ => trivial) (Or.inr ⟨by rfl, rfl⟩) hS (fun hS => ?_)
        try simp only [Act.put, List.setIfInBounds_toArray, List.set_cons_zero, List.set_cons_succ]
        refine wpAnyG_take' (i := 56) (oi := ⟨_, _, _, _, _, _⟩) (v := undef) (fun _ => True) rfl (by kernel_rfl) (by kernel_rfl) (by kernel_rfl) (by kernel_rfl) (fun _ _ _ h => h) (fun _ _ => Iff.rfl) (fun _ _ _ _ _ => trivial) (Or.inr ⟨by rfl, rfl⟩) hS (fun hS => ?_)
        try simp only [Act.put, List.setIfInBounds_toArray, List.set_cons_zero, List.set_cons_succ]
        refine wpAnyG_take' (i := 57) (oi := ⟨_, _, _, _, _, _⟩) (v := undef) (fun _ => True) rfl (by kernel_rfl) (by kernel_rfl) (by kernel_rfl) (by kernel_rfl) (fun _ _ _ h => h) (fun _ _ => Iff.rfl) (fun _ _ _ _ _ => trivial) (Or.inr ⟨by rfl, rfl⟩) hS (fun hS => ?_)
        try simp only [Act.put, List.setIfInBounds_toArray, List.set_cons_zero, List.set_cons_succ]
        refine wpAnyG_take' (i := 58) (oi := ⟨_, _, _, _, _, _⟩) (v := undef) (fun _ => True) rfl (by kernel_rfl) (by kernel_rfl) (by kernel_rfl) (by kernel_rfl) (fun _ _ _ h => h) (fun _ _ => Iff.rfl) (fun _ _ _ _ _ => trivial) (Or.inr ⟨by rfl, rfl⟩) hS (fun hS => ?_)
        try simp only [Act.put, List.setIfInBounds_toArray, List.set_cons_zero, List.set_cons_succ]
        refine wpAnyG_take' (i := 59) (oi := ⟨_, _, _, _, _, _⟩) (v := undef) (fun _ => True) rfl (by kernel_rfl) (by kernel_rfl) (by kernel_rfl) (by kernel_rfl) (fun _ _ _ h => h) (fun _ _ => Iff.rfl) (fun _ _ _ _ _ => trivial) (Or.inr ⟨by rfl, rfl⟩) hS (fun hS => ?_)
        try simp only [Act.put, List.setIfInBounds_toArray, List.set_cons_zero, List.set_cons_succ]
        refine wpAnyG_take' (i := 60) (oi := ⟨_, _, _, _, _, _⟩) (v := ?_) (fun _ => True) rfl (by kernel_rfl) (by kernel_rfl) (by kernel_rfl) (by kernel_rfl) (fun _ _ _ h => h) (fun _ _ => Iff.rfl) (fun _ _ _ _ _ => trivial) (Or.inl ⟨by rfl, ?_⟩) hS (fun hS => ?_)
        rotate_left 1
        · intro w hSw; (try dsimp only at hSw); go_simp
          try with_reducible rfl
        try simp only [Act.put, List.setIfInBounds_toArray, List.set_cons_zero, List.set_cons_succ]
        refine wpAnyG_take' (i := 61) (oi := ⟨_, _, _, _, _, _⟩) (v := ?_) (fun _ => True) rfl (by kernel_rfl) (by kernel_rfl) (by kernel_rfl) (by kernel_rfl) (fun _ _ _ h => h) (fun _ _ => Iff.rfl) (fun _ _ _ _ _ => trivial) (Or.inl ⟨by rfl, ?_⟩) hS (fun hS => ?_)
        rotate_left 1
        · intro w hSw; (try dsimp only at hSw); go_simp
          try with_reducible rfl
        try simp only [Act.put, List.setIfInBounds_toArray, List.set_cons_zero, List.set_cons_succ]
        refine wpAnyG_done (by kernel_rfl) ?_ _
        refine NoPanic.normal ?_
        go_wp2_with fail
        go_roundw
        case rel => exact ⟨k + 1, by omega, by go_num, _, _, _, _, _, _, hB6.nob g10, hmw6.trans g10⟩
        case measure => simp [intOf]; omega
      · have hpos : 0 < N := by omega
        have hL0 : L6[0]? = some (L6[0]'(by rw [← HN.out]; exact hpos)) := List.getElem?_eq_getElem _
        have hR0 : R5[0]? = some (R5[0]'(by rw [HNR.out]; exact hpos)) := List.getElem?_eq_getElem _
        have hown := hB6.rf.own
        rw [HV.out, HNR.out] at hown
        obtain ⟨gR, rfl, y0, -, -⟩ := own_item hown HNR.out hR0
        rw [← (nk_get hB6.nks hL0 hR0).1, ← htt _ hL0] at y0
        simp only [Nat.zero_mul] at y0
        rw [show decide (0 < N) = true from by simpa using hpos]
        have htt' : (tt != tt) = false := by simp
        have hpI : (0 : Int) < (N : Int) := by omega
        have hdp : decide (0 < N) = true := by simpa using hpos
        have hdp2 : decide ((0 : Int) < (N : Int)) = true := by simpa using hpos
        clear hL0 hR0 hown htt
        go_wp2_with fail
        go_region_held3 (fun w' => w'.cell? ⟨x, 0, none⟩ = some (.slice (some ⟨gR, 0, none⟩) N rc) ∧ w'.cell? ⟨x, 1, none⟩ = some (.bool off') ∧ w'.cell? ⟨gR, 0, none⟩ = some (.int .u32 tt)) (first | assumption | exact ⟨g10.cell x0 (fun h => h), g10.cell x1 (fun h => h), g10.cell y0 (fun h => h)⟩ | exact ⟨g9.cell x0 (fun h => h), g9.cell x1 (fun h => h), g9.cell y0 (fun h => h)⟩ | exact ⟨g8.cell x0 (fun h => h), g8.cell x1 (fun h => h), g8.cell y0 (fun h => h)⟩ | go_keep)
            (first
            | (go_at_call 15; refine (HSAME.out _ (Mod.refl _ _).drew).mono ?_; rintro e w8 ⟨rfl, hm8⟩; have g8 := (Mod.refl NoB w6).drew.trans hm8)
            | (go_at_call 17; refine (HLIKE.out _ g8).mono ?_; rintro e w9 ⟨a9, c9, rfl, hm9, hlk⟩; have g9 := g8.trans hm9; have HLK := Lib.hid hlk; clear hlk)
            | (go_at_call 16; refine (HLK.out _ (Mod.refl _ _)).mono ?_; rintro e w10 ⟨rfl, hm10⟩; have g10 := g9.trans hm10)
            | (go_at_call 10; refine (HLEN.out _ g10).mono ?_; rintro e w11 ⟨rfl, h⟩; obtain rfl := h.symm)
            | (go_at_call 18; refine (HEN.out _ g10).mono ?_; rintro e w12 ⟨rfl, h⟩; obtain rfl := h.symm))
        go_wp2_with fail
        go_roundw
        case rel => exact ⟨k + 1, by omega, by go_num, _, _, _, _, _, _, hB6.nob g10, hmw6.trans g10⟩
        case measure => simp [intOf]; omega
    · have hcase : k = n ∨ (k < n ∧ 60 ≤ k) := by omega
      clear hgo
      obtain ⟨N, hN⟩ : ∃ N, N = R.length := ⟨_, rfl⟩
      obtain ⟨ra, rc, hvx⟩ := own_slice hb.rf.own
      rw [← hN] at hvx
      have HN := Lib.hid hN
      have HV := Lib.hid hvx
      clear hN hvx
      have hends : ∀ wt, Both B wt p x v M ml L vx R off → Mod NoB w wt → wt.cell? ⟨x, 0, none⟩ = some (.slice ra N rc) := fun wt h _ => by
        have := h.rf.blk.cell 0
        simp at this
        rw [HV.out] at this
        exact this
      rcases hcase with rfl | ⟨hlt, h60⟩
      · have x0 := hends wr hb hm
        obtain ⟨wt, rfl⟩ : ∃ wt : World, wt = wr := ⟨_, rfl⟩
        go_wp2_with fail
        clear hends
        have hRN := hb.rf.own
        rw [HV.out, ← HN.out] at hRN
        have hNf : N ≤ 32 := by rw [HN.out]; exact hb.rf.few
        go_loopw [17, 123] (fun q i wr => ∃ (j m : Nat), j ≤ N ∧ i = .int .i64 j ∧ m = ((R.take j).filter (inq f t)).length ∧ wr.ownsRow wt.heap.size 53 3 q m (flat ((R.take j).filter (inq f t))) ∧ Mod NoB wt wr) (fun _ i _ => N - (intOf i).toNat)
        case atStart => exact ⟨0, 0, Nat.zero_le _, rfl, rfl, World.ownsRow_nil _ _ _ _, Mod.refl _ _⟩
        case round =>
          obtain ⟨j, mm, hj, rfl, hmm, hq, hml⟩ := hrel
          have HMM := Lib.hid hmm
          clear hmm
          by_cases hjl : j < N
          · have hk1 : j < R.length := by rw [← HN.out]; exact hjl
            obtain ⟨y, hy⟩ : ∃ y, R[j]? = some y := ⟨_, List.getElem?_eq_getElem hk1⟩
            obtain ⟨g, rfl, y0, y1, y2⟩ := own_item hRN HN.out.symm hy
            obtain ⟨ay, ny, cy, hyv⟩ := hb.rf.slices y (List.mem_of_getElem? hy)
            have y0 := hml.cell y0 (fun h => h)
            have y1 := hml.cell y1 (fun h => h)
            have y2 := hml.cell y2 (fun h => h)
            rw [hyv] at y2
            obtain ⟨yt, hyt⟩ : ∃ yt, yt = y.t := ⟨_, rfl⟩
            obtain ⟨yi, hyi⟩ : ∃ yi, yi = y.id := ⟨_, rfl⟩
            rw [← hyt] at y0
            rw [← hyi] at y1
            have hye : y = ⟨yt, yi, .slice ay ny cy, y.tc⟩ := by rw [hyt, hyi, ← hyv]
            have hts := filter_take_succ (inq f t) R j y hy
            have hinq : inq f t y = !(decide (yt < f) || decide (t < yt)) := by rw [hyt]; rfl
            have HY := Lib.hid hye
            have HT := Lib.hid hts
            have HI := Lib.hid hinq
            have hmm32 : mm ≤ 32 := by rw [HMM.out]; have := List.length_filter_le (inq f t) (R.take j); rw [List.length_take] at this; omega
            have hbW := Blk.new (wr.alloc (.cells #[Value.int .u32 yt, .int .u16 yi, .slice ay ny cy] 53)) 53 [Value.int .u32 yt, .int .u16 yi, .slice ay ny cy]
            rw [show (wr.alloc (.cells #[Value.int .u32 yt, .int .u16 yi, .slice ay ny cy] 53)).heap.size = wr.heap.size + 1 from by simp] at hbW
            have hmW : Mod NoB wr ((wr.alloc (.cells #[Value.int .u32 yt, .int .u16 yi, .slice ay ny cy] 53)).alloc (.cells [Value.int .u32 yt, .int .u16 yi, .slice ay ny cy].toArray 53)) := ((Mod.refl _ _).alloc _).alloc _
            obtain ⟨v', w3, hrun, hown3, hm3, hb3, hn3⟩ := append_own (P := Try.prog) Try.elem53 (hmW.own hq (fun _ _ h => h)) (m := 1) (by simp) (hbW.arr 0) (fun u hu => by simp at hu; rcases hu with rfl | rfl | rfl <;> rfl) (by unfold maxLen; omega) (by omega) (by have := hml.size; have := hmW.size; omega)
            have hm3' : Mod NoB wt w3 := (hml.trans hmW).trans' hm3 (fun k' hk' e => by have := (hq.lt k' e).1; omega)
            clear hy hyv hyt hyi hye hts hinq
            by_cases h1 : yt < f
            · have hd1 : decide (f ≤ yt) = false := by simp; omega
              go_wp2_with fail
              go_roundw
              case rel =>
                refine ⟨j + 1, mm, by omega, by go_num, ?_, ?_, hml.alloc _⟩
                · rw [HT.out, HI.out]; simp [h1, HMM.out]
                · rw [HT.out, HI.out]; simp [h1]; exact ((Mod.refl NoB _).alloc _).own hq (fun _ _ h => h)
              case measure => simp [intOf]; omega
            · have hd1 : decide (f ≤ yt) = true := by simp; omega
              by_cases h2 : t < yt
              · have hd2 : decide (yt ≤ t) = false := by simp; omega
                go_wp2_with fail
                go_roundw
                case rel =>
                  refine ⟨j + 1, mm, by omega, by go_num, ?_, ?_, hml.alloc _⟩
                  · rw [HT.out, HI.out]; simp [h2, HMM.out]
                  · rw [HT.out, HI.out]; simp [h2]; exact ((Mod.refl NoB _).alloc _).own hq (fun _ _ h => h)
                case measure => simp [intOf]; omega
              · have hd2 : decide (yt ≤ t) = true := by simp; omega
                go_wp2_with (at_builtin; refine wpList_of_run rfl (exec_builtin2 (b := .append) (fun _ _ _ _ => rfl) _ _ 37 37 rfl rfl rfl (hrun _ _)) ?_)
                go_roundw
                case rel =>
                  refine ⟨j + 1, mm + 1, by omega, by go_num, ?_, ?_, hm3'⟩
                  · rw [HT.out, HI.out]; simp [h1, h2, HMM.out]
                  · rw [HT.out, HI.out, flat_append]; simp only [h1, h2, decide_false, Bool.or_false, Bool.not_false, if_true]; rw [HY.out]; exact hown3
                case measure => simp [intOf]; omega
          · obtain rfl : j = N := by omega
            have hRt : R.take j = R := List.take_of_length_le (by rw [HN.out]; exact Nat.le_refl _)
            rw [hRt] at HMM hq
            have hbl := hb.nob hml
            have hbtw := between_walk hbl.pl f t
            have HB := Lib.hid hbtw
            obtain ⟨qa, qc, rfl⟩ := own_slice hq
            clear hRt hbtw
            go_wp2_with fail
            refine HB.out.mono ?_
            rintro e w8 ⟨a', c', L', rfl, ho8, ⟨L2, hl2, hL', hcp⟩, hm8⟩
            obtain ⟨hk2, ht2⟩ := nk_copied hl2 hcp
            have hbe := hbl.nob hm8
            have hnk : nk L' = nk (R.filter (inq f t)) := by
              rw [hL', nk_filter R (inq f t) (fun x => rfl), ← hb.nks, ← hk2]
              exact nk_filter L2 _ (fun x => rfl)
            have hbR : Byts (R.filter (inq f t)) := hb.bytR.filter _
            obtain ⟨m8, hm8'⟩ : ∃ m8, m8 = L'.length := ⟨_, rfl⟩
            have hmm8 : m8 = mm := by rw [hm8', HMM.out, nk_len hnk]
            rw [← hm8'] at ho8 ⊢
            have hl32 : m8 ≤ 32 := by
              rw [hmm8, HMM.out]
              have := List.length_filter_le (inq f t) R
              have := hb.rf.few
              omega
            have hlk := like_walk w8 _ _ a' qa m8 mm c' qc L' (R.filter (inq f t)) ho8 (hm8.own hq (fun _ _ h => h)) hm8'.symm HMM.out.symm (by omega)
              (Byts.rd (Byts.nk hnk.symm hbR) (fun z hz => ht2 z (by rw [hL'] at hz; exact (List.mem_filter.1 hz).1))) (Byts.rd hbR (fun z hz => hbe.rf.tcs z (List.mem_filter.1 hz).1))
            have HLK := Lib.hid hlk
            have HMM8 := Lib.hid hmm8
            have HNK := Lib.hid hnk
            clear hlk hmm8 hm8' hL' hcp hk2 hnk
            go_wp2_with fail
            refine HLK.out.mono ?_
            rintro e w9 ⟨b9, rfl, hb9, hm9⟩
            have hbt9 : b9 = true := hb9.2 ⟨HMM8.out, same_of_nk HNK.out⟩
            subst hbt9
            go_wp2_with fail
            go_ret
            exact ⟨rfl, hm.trans ((hml.trans hm8).trans hm9)⟩
      · obtain ⟨b, o, d, at_, id, y, yn, yc, by_, on, ys, rfl, hact, hd, hat, hby, hys, hyn, hyr⟩ := HACT.out k hlt
        obtain ⟨c0, c1, c2, c3, c4, c5⟩ := hact.nob hm
        have hmx : Mod NoB wr (wr.alloc (.cells [Value.int .u8 d, .int .u32 at_, .int .u16 id, .slice y yn yc, .int .i32 by_, .bool on].toArray 41)) := (Mod.refl _ _).alloc _
        have hbt := hb.nob hmx
        have hmt := hm.trans hmx
        have x0 := hends _ hbt hmt
        clear hact hys hyr hb hm hmx
        have hd60 : decide (60 ≤ (k : Int)) = true := by simp; omega
        go_wp2_with fail
        obtain ⟨wt, hwt⟩ : ∃ wt, wt = wr.alloc (.cells #[Value.int .u8 d, .int .u32 at_, .int .u16 id, .slice y yn yc, .int .i32 by_, .bool on] 41) := ⟨_, rfl⟩
        rw [← hwt] at hbt hmt x0 ⊢
        clear hwt c0 c1 c2 c3 c4 c5 hlt h60
        have hb := hbt
        have hm := hmt
        clear hbt hmt
        obtain ⟨wo, rfl⟩ : ∃ wo : World, wo = wr := ⟨_, rfl⟩
        clear hends
        have hRN := hb.rf.own
        rw [HV.out, ← HN.out] at hRN
        have hNf : N ≤ 32 := by rw [HN.out]; exact hb.rf.few
        go_loopw [17, 123] (fun q i wr => ∃ (j m : Nat), j ≤ N ∧ i = .int .i64 j ∧ m = ((R.take j).filter (inq f t)).length ∧ wr.ownsRow wt.heap.size 53 3 q m (flat ((R.take j).filter (inq f t))) ∧ Mod NoB wt wr) (fun _ i _ => N - (intOf i).toNat)
        case atStart => exact ⟨0, 0, Nat.zero_le _, rfl, rfl, World.ownsRow_nil _ _ _ _, Mod.refl _ _⟩
        case round =>
          obtain ⟨j, mm, hj, rfl, hmm, hq, hml⟩ := hrel
          have HMM := Lib.hid hmm
          clear hmm
          by_cases hjl : j < N
          · have hk1 : j < R.length := by rw [← HN.out]; exact hjl
            obtain ⟨y, hy⟩ : ∃ y, R[j]? = some y := ⟨_, List.getElem?_eq_getElem hk1⟩
            obtain ⟨g, rfl, y0, y1, y2⟩ := own_item hRN HN.out.symm hy
            obtain ⟨ay, ny, cy, hyv⟩ := hb.rf.slices y (List.mem_of_getElem? hy)
            have y0 := hml.cell y0 (fun h => h)
            have y1 := hml.cell y1 (fun h => h)
            have y2 := hml.cell y2 (fun h => h)
            rw [hyv] at y2
            obtain ⟨yt, hyt⟩ : ∃ yt, yt = y.t := ⟨_, rfl⟩
            obtain ⟨yi, hyi⟩ : ∃ yi, yi = y.id := ⟨_, rfl⟩
            rw [← hyt] at y0
            rw [← hyi] at y1
            have hye : y = ⟨yt, yi, .slice ay ny cy, y.tc⟩ := by rw [hyt, hyi, ← hyv]
            have hts := filter_take_succ (inq f t) R j y hy
            have hinq : inq f t y = !(decide (yt < f) || decide (t < yt)) := by rw [hyt]; rfl
            have HY := Lib.hid hye
            have HT := Lib.hid hts
            have HI := Lib.hid hinq
            have hmm32 : mm ≤ 32 := by rw [HMM.out]; have := List.length_filter_le (inq f t) (R.take j); rw [List.length_take] at this; omega
            have hbW := Blk.new (wr.alloc (.cells #[Value.int .u32 yt, .int .u16 yi, .slice ay ny cy] 53)) 53 [Value.int .u32 yt, .int .u16 yi, .slice ay ny cy]
            rw [show (wr.alloc (.cells #[Value.int .u32 yt, .int .u16 yi, .slice ay ny cy] 53)).heap.size = wr.heap.size + 1 from by simp] at hbW
            have hmW : Mod NoB wr ((wr.alloc (.cells #[Value.int .u32 yt, .int .u16 yi, .slice ay ny cy] 53)).alloc (.cells [Value.int .u32 yt, .int .u16 yi, .slice ay ny cy].toArray 53)) := ((Mod.refl _ _).alloc _).alloc _
            obtain ⟨v', w3, hrun, hown3, hm3, hb3, hn3⟩ := append_own (P := Try.prog) Try.elem53 (hmW.own hq (fun _ _ h => h)) (m := 1) (by simp) (hbW.arr 0) (fun u hu => by simp at hu; rcases hu with rfl | rfl | rfl <;> rfl) (by unfold maxLen; omega) (by omega) (by have := hml.size; have := hmW.size; omega)
            have hm3' : Mod NoB wt w3 := (hml.trans hmW).trans' hm3 (fun k' hk' e => by have := (hq.lt k' e).1; omega)
            clear hy hyv hyt hyi hye hts hinq
            by_cases h1 : yt < f
            · have hd1 : decide (f ≤ yt) = false := by simp; omega
              go_wp2_with fail
              go_roundw
              case rel =>
                refine ⟨j + 1, mm, by omega, by go_num, ?_, ?_, hml.alloc _⟩
                · rw [HT.out, HI.out]; simp [h1, HMM.out]
                · rw [HT.out, HI.out]; simp [h1]; exact ((Mod.refl NoB _).alloc _).own hq (fun _ _ h => h)
              case measure => simp [intOf]; omega
            · have hd1 : decide (f ≤ yt) = true := by simp; omega
              by_cases h2 : t < yt
              · have hd2 : decide (yt ≤ t) = false := by simp; omega
                go_wp2_with fail
                go_roundw
                case rel =>
                  refine ⟨j + 1, mm, by omega, by go_num, ?_, ?_, hml.alloc _⟩
                  · rw [HT.out, HI.out]; simp [h2, HMM.out]
                  · rw [HT.out, HI.out]; simp [h2]; exact ((Mod.refl NoB _).alloc _).own hq (fun _ _ h => h)
                case measure => simp [intOf]; omega
              · have hd2 : decide (yt ≤ t) = true := by simp; omega
                go_wp2_with (at_builtin; refine wpList_of_run rfl (exec_builtin2 (b := .append) (fun _ _ _ _ => rfl) _ _ 37 37 rfl rfl rfl (hrun _ _)) ?_)
                go_roundw
                case rel =>
                  refine ⟨j + 1, mm + 1, by omega, by go_num, ?_, ?_, hm3'⟩
                  · rw [HT.out, HI.out]; simp [h1, h2, HMM.out]
                  · rw [HT.out, HI.out, flat_append]; simp only [h1, h2, decide_false, Bool.or_false, Bool.not_false, if_true]; rw [HY.out]; exact hown3
                case measure => simp [intOf]; omega
          · obtain rfl : j = N := by omega
            have hRt : R.take j = R := List.take_of_length_le (by rw [HN.out]; exact Nat.le_refl _)
            rw [hRt] at HMM hq
            have hbl := hb.nob hml
            have hbtw := between_walk hbl.pl f t
            have HB := Lib.hid hbtw
            obtain ⟨qa, qc, rfl⟩ := own_slice hq
            clear hRt hbtw
            go_wp2_with fail
            refine HB.out.mono ?_
            rintro e w8 ⟨a', c', L', rfl, ho8, ⟨L2, hl2, hL', hcp⟩, hm8⟩
            obtain ⟨hk2, ht2⟩ := nk_copied hl2 hcp
            have hbe := hbl.nob hm8
            have hnk : nk L' = nk (R.filter (inq f t)) := by
              rw [hL', nk_filter R (inq f t) (fun x => rfl), ← hb.nks, ← hk2]
              exact nk_filter L2 _ (fun x => rfl)
            have hbR : Byts (R.filter (inq f t)) := hb.bytR.filter _
            obtain ⟨m8, hm8'⟩ : ∃ m8, m8 = L'.length := ⟨_, rfl⟩
            have hmm8 : m8 = mm := by rw [hm8', HMM.out, nk_len hnk]
            rw [← hm8'] at ho8 ⊢
            have hl32 : m8 ≤ 32 := by
              rw [hmm8, HMM.out]
              have := List.length_filter_le (inq f t) R
              have := hb.rf.few
              omega
            have hlk := like_walk w8 _ _ a' qa m8 mm c' qc L' (R.filter (inq f t)) ho8 (hm8.own hq (fun _ _ h => h)) hm8'.symm HMM.out.symm (by omega)
              (Byts.rd (Byts.nk hnk.symm hbR) (fun z hz => ht2 z (by rw [hL'] at hz; exact (List.mem_filter.1 hz).1))) (Byts.rd hbR (fun z hz => hbe.rf.tcs z (List.mem_filter.1 hz).1))
            have HLK := Lib.hid hlk
            have HMM8 := Lib.hid hmm8
            have HNK := Lib.hid hnk
            clear hlk hmm8 hm8' hL' hcp hk2 hnk
            go_wp2_with fail
            refine HLK.out.mono ?_
            rintro e w9 ⟨b9, rfl, hb9, hm9⟩
            have hbt9 : b9 = true := hb9.2 ⟨HMM8.out, same_of_nk HNK.out⟩
            subst hbt9
            go_wp2_with fail
            go_ret
            exact ⟨rfl, hm.trans ((hml.trans hm8).trans hm9)⟩
end Go.Proofs.Ytelfhcojpigkoaa
