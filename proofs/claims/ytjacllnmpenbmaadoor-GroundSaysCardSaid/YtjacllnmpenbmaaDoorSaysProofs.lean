/- GroundSays: the row, and its tied card. -/
import Derived.Test.YtjacllnmpenbmaaDoorGLaw
import Derived.Test.YtjacllnmpenbmaaDoorOpen
import Derived.Test.YtjacllnmpenbmaaDoorSaysGlob
import Derived.Test.YtjacllnmpenbmaaDoorGWrap
import Derived.Test.YtjacllnmpenbmaaDoorCards
import Derived.Test.YtjacllnmpenbmaaDoorTie
import Derived.ChangeSame
import Derived.ChangeVars
import Derived.JoinedOf
import Derived.RowKitTokens
import Derived.ChangeMaps5
import Derived.Lay
import Derived.LaidOnce
import Derived.SevenTiedAt
namespace Go.Proofs.YtjacllnmpenbmaaDoor
open Go Go.ChangeShapes Go.WideShapes Go.ChangeAt Go.RowKit
open Go.ChangeMaps (open_string shut_string)

theorem Tryd.cellsCmd : Tryd.prog.cellsOf 25 = 5 := by kernel_rfl
theorem open_cmd {H : Type} {enc : TypeId × Value → H} {w : World} {base : Nat} {spare : Nat → Bool} {held : Bool} {fuel : Nat} {cs : List Value} {x : DataW H × List MemPlace}
    (h : DataW.trod enc Tryd.prog w base spare held fuel 25 cs = some x) :
    ∃ (k o : Int) (sv sub : Nat) (a : Option Addr) (n c : Nat) (ns : List Nat), cs = [.int .u8 k, .int .u8 (sv : Int), .int .u8 (sub : Int), .int .u16 o, .slice a n c] ∧ ns.length = n ∧ n ≤ 9223372036854775807 ∧ (∀ z ∈ ns, z < 256) ∧ Rd w a (bv (ints ns)) := by
  obtain ⟨hl, hf⟩ := open_fields Tryd.underlying25 (by kernel_rfl) Tryd.cellsCmd h
  obtain ⟨v0, n0, y0, e0, t0⟩ := hf 0 _ rfl
  obtain ⟨v1, n1, y1, e1, t1⟩ := hf 1 _ rfl
  obtain ⟨v2, n2, y2, e2, t2⟩ := hf 2 _ rfl
  obtain ⟨v3, n3, y3, e3, t3⟩ := hf 3 _ rfl
  obtain ⟨v4, n4, y4, e4, t4⟩ := hf 4 _ rfl
  obtain ⟨k, h0, -, w0⟩ := DataW.trod_int Tryd.underlying5 t0
  obtain ⟨sv, h1, -, w1⟩ := DataW.trod_int Tryd.underlying5 t1
  obtain ⟨sub, h2, -, w2⟩ := DataW.trod_int Tryd.underlying5 t2
  obtain ⟨o, h3, -, w3⟩ := DataW.trod_int Tryd.underlying22 t3
  obtain ⟨a, n, c, zs, h4, hx1, hx2, hx3, hx4, hx5⟩ := open_u8s Tryd.underlying23 Tryd.underU8 Tryd.cellsU8 t4
  simp only [List.cons.injEq, and_true] at h0 h1 h2 h3
  subst h0 h1 h2 h3 h4
  obtain ⟨sv', rfl⟩ := Int.eq_ofNat_of_zero_le (u8_wf w1).1
  obtain ⟨sub', rfl⟩ := Int.eq_ofNat_of_zero_le (u8_wf w2).1
  have hzs : zs = ints (zs.map Int.toNat) := by
    unfold ints
    rw [List.map_map]
    conv => lhs; rw [← List.map_id zs]
    refine List.map_congr_left fun z hz => ?_
    have := (hx4 z hz).1
    simp
    omega
  refine ⟨k, o, sv', sub', a, n, c, zs.map Int.toNat, ?_, by simpa using hx1, by omega, fun z hz => ?_, by rw [← hzs]; exact hx5⟩
  · match cs, hl with
    | [c0, c1, c2, c3, c4], _ =>
      simp at e0 e1 e2 e3 e4
      subst e0 e1 e2 e3 e4
      rfl
  · obtain ⟨y, hy, rfl⟩ := List.mem_map.1 hz
    have := hx4 y hy
    omega

theorem laid_plain (w : World) : laidMetH Tryd.prog Rows.groundSaysRow.laid w = laidMet Tryd.prog Rows.groundSaysRow.laid w := MakeChecks.laidMetH_plain _ _ _ (by kernel_rfl)
set_option maxRecDepth 100000 in
theorem says_lifted (os : Os) (started : os.Started) (H : Type) (enc : TypeId × Value → H) :
    ReturnsInHanded {} Tryd.checked os 3 .any (fun w args => (Rows.groundSaysSpec.pre enc Tryd.prog Tryd.f3 [] false w args ∧ laidMetH Tryd.prog Rows.groundSaysRow.laid w) ∧ sizedMet enc Tryd.prog Tryd.f3 (OpenSpec.ofChange Rows.groundSaysSpec) false w args)
      (Rows.groundSaysSpec.post enc Tryd.prog Tryd.f3 false true false false) := by
  refine wrap_laid_shaped (C := Tryd.checked) (X := fun w _ => laidMetH Tryd.prog Rows.groundSaysRow.laid w) (fun _ _ _ hh h => h.of_heap hh) Tryd.own started (by kernel_rfl) Tryd.func3
    (ChangeSpec.witness_shaped (enc := enc) (C := Tryd.checked) (os := os) (X := fun w _ => laidMetH Tryd.prog Rows.groundSaysRow.laid w) false (World.laidAll Tryd.prog os Rows.groundSaysRow.laid) #[.string ⟨#[]⟩, .agg #[.int .u8 0, .int .u8 0, .int .u8 0, .int .u16 0, .slice none 0 0]] 8 (World.laidAll_os _ _ _)
      (World.shaped_of_ZipB (by kernel_rfl) (by kernel_rfl)) (by kernel_rfl) (by kernel_rfl) (by kernel_rfl)
      (by rw [laid_plain]; exact laidMet_laidAll _ (by kernel_rfl) (by kernel_rfl))) ?_
  intro W base args ds gs before hval0 hW _ hL hsh
  have hval : ∀ (j : Nat) t v, Tryd.f3.params[j]? = some t → args[j]? = some v → Value.okWide Tryd.prog W .any base t v := hval0
  have hW' := hW
  obtain ⟨p, q, hA0, hV, rfl, _, _⟩ := hW
  have hA : DataW.TrodAll enc Tryd.prog W 0 (fun _ => true) true Tryd.f3.params.toList args.toList ds p := hA0
  rw [Tryd.params3] at hA hval
  obtain ⟨v0, v1, d0, d1, p0, p1, rfl, rfl, rfl, h0, h1⟩ := trodAll_two hA
  obtain ⟨rfl, rfl⟩ := trodVars_none hV
  have h0k := h0
  have h1k := h1
  obtain ⟨s, rfl, rfl, rfl, hs⟩ := open_string Tryd.underlying9 (hval 0 9 v0 rfl rfl) h0
  obtain ⟨cs, rfl, hsz⟩ := okWide_struct Tryd.underlying25 (hval 1 25 v1 rfl rfl)
  obtain ⟨fuel1, hf1⟩ := h1
  clear hA0 hval0
  simp only [List.append_nil] at hW'
  have hlt : ∀ x ∈ p1, x.block < W.heap.size := fun x hx => by simpa using hW'.lt x (by simpa using hx)
  obtain ⟨k, o, sv, sub, a, n, c, ns, hcs, hn, hn', hns, hr⟩ := open_cmd (cs := cs.toList) (by simpa [Value.cells] using hf1)
  obtain rfl : cs = #[.int .u8 k, .int .u8 (sv : Int), .int .u8 (sub : Int), .int .u16 o, .slice a n c] := by
    apply Array.toList_inj.1
    rw [hcs]
  have hG : Glob W := glob_of W (by rw [← laid_plain]; exact hL) hsh
  have hs' : s.size ≤ 9223372036854775807 := hs
  refine (law_walk W hG s hs' k o sv sub a c n ns hn hn' hr hns).mono ?_
  rintro e W' ⟨rfl, hm⟩
  have hb : Below W.heap.size W W' := hm.below (Nat.le_refl _) (fun _ _ h => h)
  have ha1 := Below.trod Tryd.laidOut (by kernel_rfl) (of_decide_eq_true (by kernel_rfl)) h1k hb hlt
  have h3 := trodAll_cons_mk (shut_string Tryd.underlying9 hs) (trodAll_cons_mk ha1 trodAll_mk0)
  exact ⟨_, rfl, _, _, _, [], _, [], hW', trodAll_cons_mk (shut_bool Tryd.underlying4 _) trodAll_mk0, h3, rfl, by simpa using hb.frame _, fun h => by cases h⟩

theorem says_row : Rows.GroundSaysSaid :=
  OpenClaim.holds_of_wide 3 Tryd.f3 rfl rfl rfl rfl rfl rfl rfl ⟨rfl, rfl, rfl, rfl, rfl⟩ rfl rfl rfl rfl rfl (by kernel_rfl) Tryd.func3 (by kernel_rfl)
    (of_decide_eq_true (by kernel_rfl)) (by unfold Func.isWrapper; first | (rw [if_pos (by decide +kernel)]; kernel_rfl) | (rw [if_neg (by decide +kernel)]; exact ⟨rfl, rfl⟩))
    (fun os started H enc _ => says_lifted os started H enc)

theorem says_card : Rows.GroundSaysCardSaid :=
  Claim7.holds_tied_plain_at .later [] [.data, .data, .data, .data, .sentinel, .sentinel, .listed, .data, .pinned] true (true, "75eea003162241c113290b167b543204084f7722bcd10f424f01bec3b555b818") true
    says_row (fun _ h => by cases h) (by kernel_rfl) (fun _ h => by cases h) groundSays_row_tie rfl ⟨rfl, rfl⟩ (by kernel_rfl) rfl
    (fun f fn hf hfn => by
      obtain rfl : f = 3 := Option.some.inj ((show Tryd.prog.funcNamed "aerie/aerielaw28.GroundSays" = some 3 by kernel_rfl).symm.trans hf) |>.symm
      obtain rfl : fn = Tryd.f3 := (Option.some.inj (Tryd.func3.symm.trans hfn)).symm
      exact ⟨by kernel_rfl, fun j t ht => by
        rw [Tryd.params3] at ht
        have h3 : t = 9 ∨ t = 25 := by
          rcases j with _ | _ | j
          · left; simpa using ht.symm
          · right; simpa using ht.symm
          · simp at ht
        rcases h3 with rfl | rfl
        · exact (show Tryd.prog.wantsStandIn 9 = false by kernel_rfl)
        · exact (show Tryd.prog.wantsStandIn 25 = false by kernel_rfl)⟩)
    (by kernel_rfl)
#print axioms says_card
end Go.Proofs.YtjacllnmpenbmaaDoor
