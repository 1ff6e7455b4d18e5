/- What the law asks of the library's variables, out of the row's list and the world's shape. -/
import Derived.Test.YtjacllnmpenbmaaDoorGlue
import Derived.Test.YtjacllnmpenbmaaDoorRows
import Derived.Shelf.Vars
import Derived.Stop.LaidErr
import Derived.Lib.LaidTab
import Derived.Lib.LaidU8
import Derived.MakeChecks
namespace Go.Proofs.YtjacllnmpenbmaaDoor
open Go Go.RowKit Go.Shelf

theorem glob_ml (W : World) (hsh : W.ShapedOpen Tryd.prog) : ∃ m, W.cell? ⟨2, 0, none⟩ = some (.int .i64 m) :=
  cell_of_shapedOpen_int (t := 3) (zero := #[.int .i64 0]) hsh (of_decide_eq_true (by kernel_rfl)) (by kernel_rfl) rfl (by kernel_rfl) (by kernel_rfl) Tryd.underlying3
theorem Tryd.gES : Tryd.prog.globalNamed "strconv.ErrSyntax" = some 3 := by kernel_rfl
theorem Tryd.gER : Tryd.prog.globalNamed "strconv.ErrRange" = some 4 := by kernel_rfl
theorem Tryd.gESType : (Tryd.prog.globals[3]?).map (·.type) = some 74 := by kernel_rfl
theorem Tryd.gERType : (Tryd.prog.globals[4]?).map (·.type) = some 74 := by kernel_rfl
theorem Tryd.starES : "*" ++ "errors.errorString" = "*errors.errorString" := by decide
theorem Tryd.rowES (u : TypeId) (h : Tryd.prog.typeName? 3 u = some "*errors.errorString") : u = 143 :=
  typeName_ptr_named (nm := "errors.errorString") (by rw [Tryd.starES]; kernel_rfl) (by kernel_rfl) (by decide) u (by rw [Tryd.starES]; exact h)
theorem Tryd.cellsES : Tryd.prog.cellsOf 145 = 1 := by kernel_rfl
theorem Tryd.cellsStr : Tryd.prog.cellsOf 9 = 1 := by kernel_rfl
theorem glob_of (W : World) (hL : laidMet Tryd.prog Rows.groundSaysRow.laid W) (hsh : W.ShapedOpen Tryd.prog) : Glob W := by
  obtain ⟨a0, s0, hv0, -, -, -⟩ := laid_sentinel (text := [118, 97, 108, 117, 101, 32, 111, 117, 116, 32, 111, 102, 32, 114, 97, 110, 103, 101]) hL.tail.tail.tail.tail Tryd.gER Tryd.gERType Tryd.underlying74 Tryd.rowES Tryd.underlying143 Tryd.underlying145 rfl rfl Tryd.underlying9 Tryd.cellsES Tryd.cellsStr
  obtain ⟨a1, s1, hv1, -, -, -⟩ := laid_sentinel (text := [105, 110, 118, 97, 108, 105, 100, 32, 115, 121, 110, 116, 97, 120]) hL.tail.tail.tail.tail.tail Tryd.gES Tryd.gESType Tryd.underlying74 Tryd.rowES Tryd.underlying143 Tryd.underlying145 rfl rfl Tryd.underlying9 Tryd.cellsES Tryd.cellsStr
  refine ⟨glob_ml W hsh, ⟨_, _, by have h0 := World.var?_cell Tryd.gES hv1 0; simpa using h0⟩, ⟨_, _, by have h0 := World.var?_cell Tryd.gER hv0 0; simpa using h0⟩, ?_⟩
  exact Lib.tabIs_of_head (g := 1) (k := .u64) (zs := Lib.pow10Tab) (by kernel_rfl) (by kernel_rfl) Tryd.underlying119 Tryd.underlying70 (by kernel_rfl) (by kernel_rfl) hL.tail.tail
end Go.Proofs.YtjacllnmpenbmaaDoor
