/- The law GroundSays. -/
import Derived.Test.YtjacllnmpenbmaaDoorGAwake
import Derived.Test.YtjacllnmpenbmaaDoorGLike
import Derived.Test.YtjacllnmpenbmaaDoorGPhrase
import Derived.Test.YtjacllnmpenbmaaDoorGRPhrase
namespace Go.Proofs.YtjacllnmpenbmaaDoor
open Go Go.RowKit

theorem phr_len {sv sub : Nat} {ns : List Nat} {s : List UInt8} (h : phrS sv sub ns = some s) (hn : ∀ n ∈ ns, n < 256) : s.length ≤ 8 + 4 * ns.length := by
  unfold phrS at h
  cases hf : wrds.find? (byKind sv sub) with
  | none => rw [hf] at h; cases h
  | some x =>
    rw [hf] at h
    simp only [] at h
    split at h
    · cases h
      have h1 := numbersL_length ns x.name hn
      have h2 := (wrds_letters x (List.mem_of_find?_eq_some hf)).2.2.1
      omega
    · cases h
theorem say_agree {l : List UInt8} {k v s err k' v' s' : Int} {ns ns' : List Int} {ok : Bool} (h : SayIs l k v s ns err) (h' : RSayIs l k' v' s' ns' ok) :
    k' = k ∧ v' = v ∧ s' = s ∧ ns' = ns ∧ ((err = 0 ∧ ok = true) ∨ (err = 13 ∧ ok = false)) := by
  unfold SayIs at h
  unfold RSayIs at h'
  cases hs : sayS l with
  | none =>
    rw [hs] at h h'
    obtain ⟨rfl, rfl, rfl, rfl, rfl⟩ := h
    obtain ⟨rfl, rfl, rfl, rfl, rfl⟩ := h'
    exact ⟨rfl, rfl, rfl, rfl, .inr ⟨rfl, rfl⟩⟩
  | some x =>
    obtain ⟨x, y, zs⟩ := x
    rw [hs] at h h'
    obtain ⟨rfl, rfl, rfl, rfl, rfl⟩ := h
    obtain ⟨rfl, rfl, rfl, rfl, rfl⟩ := h'
    exact ⟨rfl, rfl, rfl, rfl, .inl ⟨rfl, rfl⟩⟩

set_option maxHeartbeats 4000000 in
set_option maxRecDepth 100000 in
theorem law_walk (w : World) (hG : Glob w) (s : ByteArray) (hs : s.size ≤ 9223372036854775807) (k o : Int) (sv sub : Nat) (a : Option Addr) (c n : Nat) (ns : List Nat) (hn : ns.length = n) (hn' : n ≤ 9223372036854775807) (hr : Rd w a (bv (ints ns))) (hns : ∀ x ∈ ns, x < 256) :
    Calls Tryd.prog 3 #[.string s, .agg #[.int .u8 k, .int .u8 (sv : Int), .int .u8 (sub : Int), .int .u16 o, .slice a n c]] w fun e w' => e = .returned (.bool true) ∧ Mod NoB w w' := by
  obtain ⟨w0, hw0⟩ : ∃ w0, w0 = w.alloc (.cells #[.int .u8 k, .int .u8 (sv : Int), .int .u8 (sub : Int), .int .u16 o, .slice a n c] 25) := ⟨_, rfl⟩
  have hm0 : Mod NoB w w0 := by rw [hw0]; exact (Mod.refl _ _).alloc _
  have hq0 : Blk w0 w.heap.size 25 [.int .u8 k, .int .u8 (sv : Int), .int .u8 (sub : Int), .int .u16 o, .slice a n c] := by rw [hw0]; exact Blk.new w _ _
  obtain ⟨q, hq⟩ : ∃ q, q = w.heap.size := ⟨_, rfl⟩
  rw [← hq] at hq0
  have HW0 := Lib.hid hw0
  have HQ := Lib.hid hq
  have HG := Lib.hid hG
  have HNS := Lib.hid hns
  have HN := Lib.hid hn
  clear hw0 hq hG hns hn
  go_enter Tryd.func3, Tryd.ntmps3
  go_wp2_with fail
  rw [← HW0.out, ← HQ.out]
  refine (awake_walk w0 (HG.out.nob hm0)).mono ?_
  rintro e w1 ⟨rfl, hm1⟩
  have m1 := hm0.trans hm1
  have hq1 := hq0.mod hm1 (fun h => h)
  go_wp2_with fail
  refine (text_walk w1 s 60 (by decide) hs).mono ?_
  rintro e w1' ⟨t, rfl, ht, hw1'⟩
  obtain rfl := hw1'.symm
  have c4 := hq1.cell 4
  have f4 := hq1.frozen 4
  simp at c4
  clear hq0
  go_wp2_with fail
  refine (cut_walk w1 a n c (ints ns) 20 (by simp [ints, HN.out]) hn' (by decide) (hr.nob m1)).mono ?_
  rintro e w2 ⟨a2, c2, rfl, hown2, hm2⟩
  obtain ⟨ms, hms⟩ : ∃ ms, ms = ns.take 20 := ⟨_, rfl⟩
  obtain ⟨m, hmm⟩ : ∃ m, m = min 20 n := ⟨_, rfl⟩
  have hml : ms.length = m := by rw [hms, hmm, List.length_take, HN.out]
  have hm20 : m ≤ 20 := by omega
  have hm256 : ∀ x ∈ ms, x < 256 := fun x hx => HNS.out x (List.mem_of_mem_take (hms ▸ hx))
  rw [show (ints ns).take 20 = ints ms by rw [hms]; simp [ints, List.map_take]] at hown2
  rw [← hmm] at hown2 ⊢
  have hq2 := hq1.mod hm2 (fun h => h)
  have c4' := hq2.cell 4
  have f4' := hq2.frozen 4
  simp at c4'
  clear c4 f4 hms hmm hr
  obtain ⟨w3, hw3⟩ : ∃ w3, w3 = w2.setCell ⟨q, 4, none⟩ (.slice a2 m c2) := ⟨_, rfl⟩
  have hq3 : Blk w3 q 25 [.int .u8 k, .int .u8 (sv : Int), .int .u8 (sub : Int), .int .u16 o, .slice a2 m c2] := by rw [hw3]; exact hq2.setCell 4 _
  have m3 : Mod NoB w w3 := by
    rw [hw3]
    exact (m1.trans hm2).setCell _ (fun h => absurd h (by rw [HQ.out]; exact Nat.lt_irrefl _))
  have hr3 : Rd w3 a2 (bv (ints ms)) := by
    rw [hw3]
    exact Rd.of_own (((Mod.refl (· = q) w2).setCell _ (fun _ => rfl)).own hown2 (fun g hg e => own_ne_blk hown2 hq2 (by decide) (by rw [hg, e])))
  have HW3 := Lib.hid hw3
  have HML := Lib.hid hml
  have HM256 := Lib.hid hm256
  clear hw3 hml hm256
  go_wp2_with fail
  rw [← HW3.out]
  refine (say_walk w3 (HG.out.nob m3) t (by omega)).mono ?_
  rintro e w4 ⟨ak, v1, s1, er, ax, nx, cx, xs, rfl, hownx, hnx, hix, hm4⟩
  have HIX := Lib.hid hix
  have HNX := Lib.hid hnx
  clear hix hnx c4' f4' hq2 hq1
  go_wp2_with fail
  obtain ⟨w5, hw5⟩ : ∃ w5, w5 = w4.alloc (.cells #[.int .u8 ak, .int .u8 v1, .int .u8 s1, .int .u16 0, .slice ax nx cx] 25) := ⟨_, rfl⟩
  have hm5 : Mod NoB w4 w5 := by rw [hw5]; exact (Mod.refl _ _).alloc _
  have hbx : Blk w5 w4.heap.size 25 [.int .u8 ak, .int .u8 v1, .int .u8 s1, .int .u16 0, .slice ax nx cx] := by rw [hw5]; exact Blk.new w4 _ _
  rw [← hw5]
  have HW5 := Lib.hid hw5
  clear hw5
  refine (rsay_walk w5 t (by omega)).mono ?_
  rintro e w6 ⟨ak', v2, s2, ok, ay, ny, cy, ys, rfl, howny, hny, hiy, hm6⟩
  obtain ⟨rfl, rfl, rfl, rfl, hcase⟩ := say_agree HIX.out hiy
  obtain rfl : ny = nx := by rw [hny, HNX.out]
  have m6 : Mod NoB w w6 := ((m3.trans hm4).trans hm5).trans hm6
  have m36 : Mod NoB w3 w6 := (hm4.trans hm5).trans hm6
  have hbx6 := hbx.mod hm6 (fun h => h)
  have rx := (Rd.of_own hownx).nob (hm5.trans hm6)
  have ry := Rd.of_own howny
  have x0 := fun ob => ((hbx6.mod ((Mod.refl NoB w6).alloc ob) (fun h => h))).cell 0
  have x1 := fun ob => ((hbx6.mod ((Mod.refl NoB w6).alloc ob) (fun h => h))).cell 1
  have x2 := fun ob => ((hbx6.mod ((Mod.refl NoB w6).alloc ob) (fun h => h))).cell 2
  have x3 := fun ob => ((hbx6.mod ((Mod.refl NoB w6).alloc ob) (fun h => h))).cell 3
  have x4 := fun ob => ((hbx6.mod ((Mod.refl NoB w6).alloc ob) (fun h => h))).cell 4
  simp at x0 x1 x2 x3 x4
  have HLK := Lib.hid (fun ob => like_walk (w6.alloc ob) ak' v2 s2 0 ax ay ny cx cy ys HNX.out.symm (by have := (own_len howny).2; unfold maxLen at this; omega) (rx.nob ((Mod.refl NoB w6).alloc ob)) (ry.nob ((Mod.refl NoB w6).alloc ob)))
  clear hiy hny rx ry hbx hbx6 hownx howny
  rcases hcase with ⟨rfl, rfl⟩ | ⟨rfl, rfl⟩
  all_goals
    go_wp2_with fail
    refine (HLK.out _).mono ?_
    rintro e w7 ⟨rfl, hm7⟩
    have m37 : Mod NoB w3 w7 := (m36.alloc _).trans hm7
    have hq7 := hq3.mod m37 (fun h => h)
    have q0 := hq7.cell 0
    have q1 := hq7.cell 1
    have q2 := hq7.cell 2
    have q3 := hq7.cell 3
    have q4 := hq7.cell 4
    simp at q0 q1 q2 q3 q4
    have m7 := m3.trans m37
    clear x0 x1 x2 x3 x4
    go_wp2_with fail
    refine (phrase_walk w7 (HG.out.nob m7) k o sv sub a2 c2 ms m HML.out (by omega) (hr3.nob m37) HM256.out).mono ?_
    rintro e w8 ⟨he, hm8⟩
    have m38 := m37.trans hm8
    have m8 := m3.trans m38
    have hq8 := hq3.mod m38 (fun h => h)
    have p0 := hq8.cell 0
    have p1 := hq8.cell 1
    have p2 := hq8.cell 2
    have p3 := hq8.cell 3
    have p4 := hq8.cell 4
    simp at p0 p1 p2 p3 p4
    have HRP := Lib.hid (rphrase_walk w8 0 0 sv sub a2 c2 ms m HML.out (by omega) (hr3.nob m38) HM256.out)
    cases hph : phrS sv sub ms with
    | none =>
      rw [hph] at he
      obtain rfl : e = .returned (.tuple #[.string ⟨#[]⟩, .bool false]) := he
      have hrp : bs (rphr sv sub ms) = ⟨#[]⟩ := by unfold rphr; rw [hph]; rfl
      have HR2 := Lib.hid hrp
      clear hph hrp
      go_wp2_with fail
      refine HRP.out.mono ?_
      rintro e w9 ⟨rfl, hm9⟩
      rw [HR2.out]
      go_wp2_with fail
      go_ret
      exact ⟨rfl, m8.trans hm9⟩
    | some p =>
      rw [hph] at he
      obtain rfl : e = .returned (.tuple #[.string (bs p), .bool true]) := he
      have hrp : rphr sv sub ms = p := by unfold rphr; rw [hph]; rfl
      have HR2 := Lib.hid hrp
      have HPH := Lib.hid hph
      have hne : ¬ (bs p).toList = [] := by rw [Go.ByteArray.toList_eq, bs_list]; exact (phrS_ne hph).1
      have hne2 : (bs p).toList.isEmpty = false := by rw [List.isEmpty_eq_false_iff]; exact hne
      have HSZ := Lib.hid (show (bs p).size ≤ 1000 by rw [bs_size]; have := phr_len hph HM256.out; have := HML.out; omega)
      clear hph hrp
      go_wp2_with fail
      refine HRP.out.mono ?_
      rintro e w9 ⟨rfl, hm9⟩
      rw [HR2.out]
      go_wp2_with fail
      refine (say_walk w9 (HG.out.nob (m8.trans hm9)) (bs p) HSZ.out).mono ?_
      rintro e w10 ⟨ak3, v3, s3, er3, az, nz, cz, zs, rfl, hownz, hnz, hiz, hm10⟩
      unfold SayIs at hiz
      rw [bs_list, say_phr HM256.out HPH.out] at hiz
      obtain ⟨rfl, rfl, rfl, rfl, rfl⟩ := hiz
      have hlen : (ints ms).length = m := by simp [ints, HML.out]
      obtain rfl : nz = m := by rw [hnz, hlen]
      have m310 : Mod NoB w3 w10 := (m38.trans hm9).trans hm10
      have hq10 := hq3.mod m310 (fun h => h)
      have z1 := fun ob => (hq10.mod ((Mod.refl NoB w10).alloc ob) (fun h => h)).cell 1
      have z2 := fun ob => (hq10.mod ((Mod.refl NoB w10).alloc ob) (fun h => h)).cell 2
      have z4 := fun ob => (hq10.mod ((Mod.refl NoB w10).alloc ob) (fun h => h)).cell 4
      simp at z1 z2 z4
      have SAME := Lib.hid (fun ob => (same_walk (w10.alloc ob) az a2 cz c2 (ints ms) (ints ms) nz nz hlen hlen (by omega) ((Rd.of_own hownz).nob ((Mod.refl NoB w10).alloc ob)) ((hr3.nob m310).nob ((Mod.refl NoB w10).alloc ob))).mono (R' := fun e w' => e = .returned (.bool true) ∧ Mod NoB (w10.alloc ob) w') (by
        rintro e w' ⟨rfl, h⟩
        exact ⟨by simp, h⟩))
      clear hne hne2 p0 p1 p2 p3 p4 q0 q1 q2 q3 q4 hlen hnz hownz
      go_wp2_with fail
      refine (SAME.out _).mono ?_
      rintro e w11 ⟨rfl, hm11⟩
      go_wp2_with fail
      go_ret
      exact ⟨rfl, ((m3.trans m310).alloc _).trans hm11⟩
end Go.Proofs.YtjacllnmpenbmaaDoor
