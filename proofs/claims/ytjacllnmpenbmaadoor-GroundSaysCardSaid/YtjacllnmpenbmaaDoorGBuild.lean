/- strings.Builder: WriteByte and String, for a builder of the call's own. -/
import Derived.Test.YtjacllnmpenbmaaDoorGSpace
import Derived.Deep.RegionHeld3
namespace Go.Proofs.YtjacllnmpenbmaaDoor
open Go Go.RowKit

/-- Block b is a builder that holds l; its row was made since base. -/
def BAt (w : World) (base b : Nat) (l : List Int) : Prop := ∃ (p v : Value), (p = .pointer none ∨ p = .pointer (some ⟨b, 0, none⟩)) ∧ Blk w b 87 [p, v] ∧ w.ownsRow base 5 1 v l.length (bv l)

set_option maxHeartbeats 1000000 in
set_option maxRecDepth 100000 in
theorem copycheck_walk (w : World) (b : Nat) (p v : Value) (hp : p = .pointer none ∨ p = .pointer (some ⟨b, 0, none⟩)) (hb : Blk w b 87 [p, v]) :
    Calls Tryd.prog 60 #[.pointer (some ⟨b, 0, none⟩)] w fun e w' => e = .returned (.tuple #[]) ∧ Blk w' b 87 [.pointer (some ⟨b, 0, none⟩), v] ∧ Mod (· = b) w w' := by
  have c0 := hb.cell 0
  have f0 := hb.frozen 0
  simp at c0
  obtain ⟨j, hj, hjs⟩ := Option.map_eq_some_iff.1 (show (Tryd.prog.info? 87).map (·.size) = some 2 by kernel_rfl)
  have hsh : w.shape? b = some (87, 2) := by unfold Blk at hb; simp [World.shape?, hb]
  have hto := Lib.run_to_unsafe (P := Tryd.prog) w ⟨b, 0, none⟩ Tryd.underlying85 Tryd.underlying128 hj (by rw [hjs]; decide) hsh (Nat.zero_lt_succ 1)
  have hfrom := Lib.run_from_unsafe (P := Tryd.prog) w ⟨b, 0, none⟩ Tryd.underlying128 Tryd.underlying85 hj hsh (by kernel_rfl)
  have hsame := Lib.run_neq_ptr_same (P := Tryd.prog) w ⟨b, 0, none⟩ Tryd.underlying85 hj
  have hcall : (callFunc 77 #[.pointer (some ⟨b, 0, none⟩)]).run Tryd.prog w = .ok (.value (.pointer (some ⟨b, 0, none⟩))) w := by
    rw [run_callFunc_extern Tryd.func77 (by kernel_rfl) (by kernel_rfl) (by kernel_rfl) (e := Extern.AbiNoEscape.same) (by kernel_rfl), Lib.run_noEscape]
    rfl
  rcases hp with rfl | rfl
  · have H1 := Lib.hid (hb.setCell 0 (.pointer (some ⟨b, 0, none⟩)))
    go_enter Tryd.func60, Tryd.ntmps60
    go_wp2_with fail
    go_end0
    exact ⟨rfl, H1.out, (Mod.refl _ _).setCell _ (fun _ => rfl)⟩
  · go_enter Tryd.func60, Tryd.ntmps60
    go_wp2_with fail
    go_end0
    exact ⟨rfl, hb, Mod.refl _ _⟩

set_option maxHeartbeats 1000000 in
set_option maxRecDepth 100000 in
theorem writebyte_walk (w : World) (base b : Nat) (l : List Int) (z : Int) (hB : BAt w base b l) (hl : l.length ≤ 1000) (hbase : base ≤ w.heap.size) (hbb : base ≤ b) :
    Calls Tryd.prog 41 #[.pointer (some ⟨b, 0, none⟩), .int .u8 z] w fun e w' => e = .returned .nilIface ∧ BAt w' base b (l ++ [z]) ∧ Mod (fun k => base ≤ k) w w' := by
  obtain ⟨p, v, hp, hb, hown⟩ := hB
  have HL := Lib.hid hl
  obtain ⟨n, hn⟩ : ∃ n, n = l.length := ⟨_, rfl⟩
  rw [← hn] at hown hl
  have HN := Lib.hid hn
  clear hn
  obtain ⟨sa, sc, rfl⟩ := own_slice hown
  have HC := Lib.hid (copycheck_walk w b p (.slice sa n sc) hp hb)
  have HNE := Lib.hid (own_ne_blk hown hb (by decide))
  clear hp
  go_enter Tryd.func41, Tryd.ntmps41
  go_wp2_with fail
  refine HC.out.mono ?_
  rintro e w1 ⟨rfl, hb1, hm1⟩
  have hov := hm1.own hown (fun g hg e => HNE.out (by rw [hg, e]))
  have e1 := hb1.cell 1
  simp at e1
  have hbW := Blk.new w1 5 [Value.int .u8 z]
  have hmW : Mod NoB w1 (w1.alloc (.cells [Value.int .u8 z].toArray 5)) := (Mod.refl _ _).alloc _
  have hovW := hmW.own hov (fun _ _ h => h)
  have hbvW := hb1.mod hmW (fun h => h)
  obtain ⟨v', w6, hrun, hown6, hm6, hb6, hn6⟩ := append_own (P := Tryd.prog) Tryd.elemU8 hovW (m := 1) (by simp) (hbW.arr 0) (fun u hu => by simp at hu; subst hu; rfl) (by unfold maxLen; omega) (by omega) (by have := hm1.size; have := hmW.size; omega)
  obtain ⟨a6, c6, rfl⟩ := own_slice hown6
  have hbv6 := hbvW.mod hm6 (own_ne_blk hovW hbvW (by decide))
  have e6 := hbv6.cell 1
  have f6 := hbv6.frozen 1
  simp at e6
  have hset : Mod (· = b) w6 (w6.setCell ⟨b, 1, none⟩ (.slice a6 (n + 1) c6)) := (Mod.refl _ _).setCell _ (fun _ => rfl)
  have hbv7 := hbv6.setCell 1 (.slice a6 (n + 1) c6)
  have hfin : BAt (w6.setCell ⟨b, 1, none⟩ (.slice a6 (n + 1) c6)) base b (l ++ [z]) := by
    refine ⟨_, _, .inr rfl, hbv7, ?_⟩
    have h6 : w6.ownsRow base 5 1 (.slice a6 (n + 1) c6) (n + 1) (bv (l ++ [z])) := by simpa [bv] using hown6
    have h7 := hset.own h6 (fun g hg e => own_ne_blk h6 hbv6 (by decide) (by rw [hg, e]))
    have : (l ++ [z]).length = n + 1 := by simp [← HN.out]
    rw [this]
    exact h7
  have hmod : Mod (fun k => base ≤ k) w (w6.setCell ⟨b, 1, none⟩ (.slice a6 (n + 1) c6)) :=
    (((hm1.mono (fun k _ h => by omega)).trans' hmW (fun _ _ h => h.elim)).trans' hm6 (fun k _ e => (hovW.lt k e).1)).trans' hset (fun k _ h => by omega)
  have HF := Lib.hid hfin
  clear hfin hbv7 hset hb6 hn6 hown6 hbW hovW
  go_wp2_with (at_builtin; refine wpList_of_run rfl (exec_builtin2 (b := .append) (fun _ _ _ _ => rfl) _ _ 23 23 rfl rfl rfl (hrun _ _)) ?_)
  go_ret
  exact ⟨rfl, HF.out, hmod⟩
end Go.Proofs.YtjacllnmpenbmaaDoor
