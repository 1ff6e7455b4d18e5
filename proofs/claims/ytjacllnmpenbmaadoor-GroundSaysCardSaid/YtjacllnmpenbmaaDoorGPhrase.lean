/- The ground's Phrase. -/
import Derived.Test.YtjacllnmpenbmaaDoorGWords
import Derived.Test.YtjacllnmpenbmaaDoorGSpace
import Derived.Deep.RegionHeld3
namespace Go.Proofs.YtjacllnmpenbmaaDoor
open Go Go.RowKit

/-- What Phrase answers. -/
def PhrPost (sv sub : Nat) (ns : List Nat) (w : World) (e : Ending) (w' : World) : Prop := (match phrS sv sub ns with
  | none => e = .returned (.tuple #[.string ⟨#[]⟩, .bool false])
  | some s => e = .returned (.tuple #[.string (bs s), .bool true])) ∧ Mod NoB w w'
theorem find_perm {α : Type} {p : α → Bool} {l l' : List α} (h : l.Perm l') (hu : ∀ a ∈ l', ∀ b ∈ l', p a = true → p b = true → a = b) : l.find? p = l'.find? p := by
  cases hf : l'.find? p with
  | none =>
    rw [List.find?_eq_none] at hf ⊢
    intro x hx
    exact hf x (h.mem_iff.1 hx)
  | some x =>
    have hx := List.mem_of_find?_eq_some hf
    have hpx := List.find?_some hf
    cases hg : l.find? p with
    | none =>
      rw [List.find?_eq_none] at hg
      exact absurd hpx (hg x (h.mem_iff.2 hx))
    | some y => rw [hu y (h.mem_iff.1 (List.mem_of_find?_eq_some hg)) x hx (List.find?_some hg) hpx]
theorem kget_words {l : List ((Nat × Nat) × Value)} (h : l.Perm (wrds.map ent)) (sv sub : Nat) : kget l (sv, sub) = (wrds.find? (byKind sv sub)).map gval := by
  unfold kget
  rw [find_perm h, List.find?_map]
  · have : ((fun p : (Nat × Nat) × Value => decide ((sv, sub) = p.1)) ∘ ent) = byKind sv sub := by
      funext x
      simp only [Function.comp, ent, byKind, Prod.mk.injEq]
      by_cases h1 : sv = x.sv <;> by_cases h2 : sub = x.sub <;> simp [h1, h2, eq_comm]
    rw [this]
    cases wrds.find? (byKind sv sub) <;> rfl
  · intro a ha b hb h1 h2
    obtain ⟨x, hx, rfl⟩ := List.mem_map.1 ha
    obtain ⟨y, hy, rfl⟩ := List.mem_map.1 hb
    simp [ent] at h1 h2
    rw [wrds_kinds x hx y hy (by omega) (by omega)]
theorem zero_word (w : World) : (zeroValue 54).run Tryd.prog w = .ok (.agg #[.string ⟨#[]⟩, .int .i64 0]) w := by go_simp
theorem words_look {w : World} {M : Nat} {l : List ((Nat × Nat) × Value)} (h : l.Perm (wrds.map ent)) (hM : MapK encK w M l) (sv sub : Nat) :
    (Instr.lookup 49 (.map (some M)) (.agg #[.int .u8 (sv : Int), .int .u8 (sub : Int)]) true).run Tryd.prog w = .ok (.tuple #[((wrds.find? (byKind sv sub)).map gval).getD (.agg #[.string ⟨#[]⟩, .int .i64 0]), .bool ((wrds.find? (byKind sv sub)).map gval).isSome]) w := by
  have := run_lookupK_ok (w := w) (M := M) (l := l) Tryd.underlying49 kindEq zero_word hM (sv, sub)
  rw [kget_words h] at this
  exact this

set_option maxHeartbeats 2000000 in
set_option maxRecDepth 20000 in
theorem phrase_walk (w : World) (hG : Glob w) (k o : Int) (sv sub : Nat) (a : Option Addr) (c : Nat) (ns : List Nat) (n : Nat) (hn : ns.length = n) (hn' : n ≤ 1000) (hr : Rd w a (bv (ints ns))) (hns : ∀ x ∈ ns, x < 256) :
    Calls Tryd.prog 10 #[.agg #[.int .u8 k, .int .u8 (sv : Int), .int .u8 (sub : Int), .int .u16 o, .slice a n c]] w (PhrPost sv sub ns w) := by
  obtain ⟨w0, hw0⟩ : ∃ w0, w0 = w.alloc (.cells #[.int .u8 k, .int .u8 (sv : Int), .int .u8 (sub : Int), .int .u16 o, .slice a n c] 25) := ⟨_, rfl⟩
  have hm0 : Mod NoB w w0 := by rw [hw0]; exact (Mod.refl _ _).alloc _
  have hq0 : Blk w0 w.heap.size 25 [.int .u8 k, .int .u8 (sv : Int), .int .u8 (sub : Int), .int .u16 o, .slice a n c] := by rw [hw0]; exact Blk.new w _ _
  obtain ⟨q, hq⟩ : ∃ q, q = w.heap.size := ⟨_, rfl⟩
  rw [← hq] at hq0
  have c1 := hq0.cell 1
  have c2 := hq0.cell 2
  have c4 := hq0.cell 4
  simp at c1 c2 c4
  have NE : ¬ q = w0.heap.size := by have := hq0.lt; omega
  have LOOK := Lib.hid (fun (w : World) M l (h : l.Perm (wrds.map ent)) (hM : MapK encK w M l) => words_look h hM sv sub)
  have SP := Lib.hid (fun (w' : World) (l : List UInt8) (hl : l.length ≤ 100) (hm : Mod NoB w w') => spaced_walk w' (hG.nob hm) l hl a c ns n hn hn' (hr.nob hm) hns)
  have HW0 := Lib.hid hw0
  have HQ := Lib.hid hq
  have HN := Lib.hid hn
  have A1 := Lib.hid (fun o => ((Mod.refl NoB w0).drew.alloc o).cell c1 (fun h => h))
  have A2 := Lib.hid (fun o => ((Mod.refl NoB w0).drew.alloc o).cell c2 (fun h => h))
  clear hw0 hq hn hr hns hG
  cases hf : wrds.find? (byKind sv sub) with
  | none =>
    have HP := Lib.hid (show phrS sv sub ns = none by unfold phrS; rw [hf])
    have look := fun w M l h hM => LOOK.out w M l h hM
    rw [hf] at look
    simp only [Option.map_none, Option.getD_none, Option.isSome_none] at look
    have LK := Lib.hid look
    clear hf LOOK look
    go_enter Tryd.func10, Tryd.ntmps10
    go_wp2_with fail
    rw [← HW0.out, ← HQ.out]
    go_region_held3 (fun w' => w'.cell? ⟨q, 1, none⟩ = some (.int .u8 (sv : Int)) ∧ w'.cell? ⟨q, 2, none⟩ = some (.int .u8 (sub : Int))) (first | exact ⟨c1, c2⟩ | exact ⟨A1.out _, A2.out _⟩ | exact ⟨k1, k2⟩ | exact ⟨k3.out _, k4.out _⟩ | exact ⟨(((Mod.refl (· = w0.heap.size) w1).setCell _ (fun _ => rfl)).setCell _ (fun _ => rfl)).cell k1 NE, (((Mod.refl (· = w0.heap.size) w1).setCell _ (fun _ => rfl)).setCell _ (fun _ => rfl)).cell k2 NE⟩)
      (first | (go_at_call 16; refine (words_walk _).mono ?_; rintro e w1 ⟨M, l, rfl, hp, hM, hlt, hm1⟩; have hmw : Mod NoB w w1 := (by first | exact hm0.drew.trans hm1 | exact (hm0.drew.alloc _).trans hm1); have hmw0 : Mod NoB w0 w1 := (by first | exact (Mod.refl NoB w0).drew.trans hm1 | exact ((Mod.refl NoB w0).drew.alloc _).trans hm1); have k1 := hm1.cell (a := ⟨q, 1, none⟩) (v := .int .u8 (sv : Int)) (by first | exact c1 | exact A1.out _) (fun h => h); have k2 := hm1.cell (a := ⟨q, 2, none⟩) (v := .int .u8 (sub : Int)) (by first | exact c2 | exact A2.out _) (fun h => h); have k3 := Lib.hid (fun o => ((Mod.refl NoB w1).alloc o).cell k1 (fun h => h)); have k4 := Lib.hid (fun o => ((Mod.refl NoB w1).alloc o).cell k2 (fun h => h)); have hl1 := LK.out _ M l hp hM; have hl2 := fun o => LK.out _ M l hp (hM.mod ((Mod.refl NoB _).alloc o) (fun h => h)); clear hp hM hlt; try (have k5 := (Blk.new w0.drew 54 [.string ⟨#[]⟩, .int .i64 0]).mod hm1 (fun h => h); have k6 := k5.cell 0; have k7 := k5.cell 1; have k8 := k5.frozen 0; have k9 := k5.frozen 1; simp at k6 k7 k8 k9)))
    all_goals go_wp2_with fail
    all_goals go_ret2
    all_goals refine ⟨by rw [HP.out]; rfl, ?_⟩
    all_goals (first | exact hmw.alloc _ | exact (hmw.setCell _ (fun h => absurd h (by have := hm0.size; show ¬ w0.heap.size < w.heap.size; omega))).setCell _ (fun h => absurd h (by have := hm0.size; show ¬ w0.heap.size < w.heap.size; omega)))
  | some x =>
    have hxw := List.mem_of_find?_eq_some hf
    have hlet := wrds_letters x hxw
    have look := fun w M l h hM => LOOK.out w M l h hM
    rw [hf] at look
    simp only [Option.map_some, Option.getD_some, Option.isSome_some, gval] at look
    have LK := Lib.hid look
    have SPX := Lib.hid (fun w' hm => SP.out w' x.name (by have := hlet.2.2.1; omega) hm)
    by_cases hnum : x.n = n
    · have HP := Lib.hid (show phrS sv sub ns = some (numbersL x.name ns) by unfold phrS; rw [hf]; simp only []; rw [if_pos (by rw [HN.out, hnum])])
      have hb : ((x.n : Int) != (n : Int)) = false := by rw [hnum]; simp
      clear hf LOOK look hxw hlet SP hnum
      go_enter Tryd.func10, Tryd.ntmps10
      go_wp2_with fail
      rw [← HW0.out, ← HQ.out]
      go_region_held3 (fun w' => w'.cell? ⟨q, 1, none⟩ = some (.int .u8 (sv : Int)) ∧ w'.cell? ⟨q, 2, none⟩ = some (.int .u8 (sub : Int))) (first | exact ⟨c1, c2⟩ | exact ⟨A1.out _, A2.out _⟩ | exact ⟨k1, k2⟩ | exact ⟨k3.out _, k4.out _⟩ | exact ⟨(((Mod.refl (· = w0.heap.size) w1).setCell _ (fun _ => rfl)).setCell _ (fun _ => rfl)).cell k1 NE, (((Mod.refl (· = w0.heap.size) w1).setCell _ (fun _ => rfl)).setCell _ (fun _ => rfl)).cell k2 NE⟩)
        (first | (go_at_call 16; refine (words_walk _).mono ?_; rintro e w1 ⟨M, l, rfl, hp, hM, hlt, hm1⟩; have hmw : Mod NoB w w1 := (by first | exact hm0.drew.trans hm1 | exact (hm0.drew.alloc _).trans hm1); have hmw0 : Mod NoB w0 w1 := (by first | exact (Mod.refl NoB w0).drew.trans hm1 | exact ((Mod.refl NoB w0).drew.alloc _).trans hm1); have k1 := hm1.cell (a := ⟨q, 1, none⟩) (v := .int .u8 (sv : Int)) (by first | exact c1 | exact A1.out _) (fun h => h); have k2 := hm1.cell (a := ⟨q, 2, none⟩) (v := .int .u8 (sub : Int)) (by first | exact c2 | exact A2.out _) (fun h => h); have k3 := Lib.hid (fun o => ((Mod.refl NoB w1).alloc o).cell k1 (fun h => h)); have k4 := Lib.hid (fun o => ((Mod.refl NoB w1).alloc o).cell k2 (fun h => h)); have hl1 := LK.out _ M l hp hM; have hl2 := fun o => LK.out _ M l hp (hM.mod ((Mod.refl NoB _).alloc o) (fun h => h)); clear hp hM hlt; try (have k5 := (Blk.new w0.drew 54 [.string ⟨#[]⟩, .int .i64 0]).mod hm1 (fun h => h); have k6 := k5.cell 0; have k7 := k5.cell 1; have k8 := k5.frozen 0; have k9 := k5.frozen 1; simp at k6 k7 k8 k9)))
      all_goals
        have m4 := hmw0.cell c4 (fun h => h)
        have m5 := fun o => ((Mod.refl NoB w1).alloc o).cell m4 (fun h => h)
        have m6 := fun u v => (((Mod.refl (· = w0.heap.size) w1).setCell (a := ⟨w0.heap.size, 0, none⟩) u (fun _ => rfl)).setCell (a := ⟨w0.heap.size, 1, none⟩) v (fun _ => rfl)).cell m4 NE
        go_wp2_with fail
        refine (SPX.out _ (by first | exact hmw.alloc _ | exact (hmw.setCell _ (fun h => absurd h (by have := hm0.size; show ¬ w0.heap.size < w.heap.size; omega))).setCell _ (fun h => absurd h (by have := hm0.size; show ¬ w0.heap.size < w.heap.size; omega)))).mono ?_
        rintro e w2 ⟨rfl, hm2⟩
        go_wp2_with fail
        go_ret2
        refine ⟨by rw [HP.out]; rfl, Mod.trans ?_ hm2⟩
        first | exact hmw.alloc _ | exact (hmw.setCell _ (fun h => absurd h (by have := hm0.size; show ¬ w0.heap.size < w.heap.size; omega))).setCell _ (fun h => absurd h (by have := hm0.size; show ¬ w0.heap.size < w.heap.size; omega))
    · have HP := Lib.hid (show phrS sv sub ns = none by unfold phrS; rw [hf]; simp only []; rw [if_neg (by rw [HN.out]; exact hnum)])
      have hb : ((x.n : Int) != (n : Int)) = true := by rw [bne_iff_ne]; omega
      clear hf LOOK look hxw hlet SP hnum
      go_enter Tryd.func10, Tryd.ntmps10
      go_wp2_with fail
      rw [← HW0.out, ← HQ.out]
      go_region_held3 (fun w' => w'.cell? ⟨q, 1, none⟩ = some (.int .u8 (sv : Int)) ∧ w'.cell? ⟨q, 2, none⟩ = some (.int .u8 (sub : Int))) (first | exact ⟨c1, c2⟩ | exact ⟨A1.out _, A2.out _⟩ | exact ⟨k1, k2⟩ | exact ⟨k3.out _, k4.out _⟩ | exact ⟨(((Mod.refl (· = w0.heap.size) w1).setCell _ (fun _ => rfl)).setCell _ (fun _ => rfl)).cell k1 NE, (((Mod.refl (· = w0.heap.size) w1).setCell _ (fun _ => rfl)).setCell _ (fun _ => rfl)).cell k2 NE⟩)
        (first | (go_at_call 16; refine (words_walk _).mono ?_; rintro e w1 ⟨M, l, rfl, hp, hM, hlt, hm1⟩; have hmw : Mod NoB w w1 := (by first | exact hm0.drew.trans hm1 | exact (hm0.drew.alloc _).trans hm1); have hmw0 : Mod NoB w0 w1 := (by first | exact (Mod.refl NoB w0).drew.trans hm1 | exact ((Mod.refl NoB w0).drew.alloc _).trans hm1); have k1 := hm1.cell (a := ⟨q, 1, none⟩) (v := .int .u8 (sv : Int)) (by first | exact c1 | exact A1.out _) (fun h => h); have k2 := hm1.cell (a := ⟨q, 2, none⟩) (v := .int .u8 (sub : Int)) (by first | exact c2 | exact A2.out _) (fun h => h); have k3 := Lib.hid (fun o => ((Mod.refl NoB w1).alloc o).cell k1 (fun h => h)); have k4 := Lib.hid (fun o => ((Mod.refl NoB w1).alloc o).cell k2 (fun h => h)); have hl1 := LK.out _ M l hp hM; have hl2 := fun o => LK.out _ M l hp (hM.mod ((Mod.refl NoB _).alloc o) (fun h => h)); clear hp hM hlt; try (have k5 := (Blk.new w0.drew 54 [.string ⟨#[]⟩, .int .i64 0]).mod hm1 (fun h => h); have k6 := k5.cell 0; have k7 := k5.cell 1; have k8 := k5.frozen 0; have k9 := k5.frozen 1; simp at k6 k7 k8 k9)))
      all_goals
        have m4 := hmw0.cell c4 (fun h => h)
        have m5 := fun o => ((Mod.refl NoB w1).alloc o).cell m4 (fun h => h)
        have m6 := fun u v => (((Mod.refl (· = w0.heap.size) w1).setCell (a := ⟨w0.heap.size, 0, none⟩) u (fun _ => rfl)).setCell (a := ⟨w0.heap.size, 1, none⟩) v (fun _ => rfl)).cell m4 NE
        go_wp2_with fail
        go_ret2
        refine ⟨by rw [HP.out]; rfl, ?_⟩
        first | exact hmw.alloc _ | exact (hmw.setCell _ (fun h => absurd h (by have := hm0.size; show ¬ w0.heap.size < w.heap.size; omega))).setCell _ (fun h => absurd h (by have := hm0.size; show ¬ w0.heap.size < w.heap.size; omega))
end Go.Proofs.YtjacllnmpenbmaaDoor
