import Derived.Test.YticifcoffgoajaaDoorLx3
import Derived.Test.YticifcoffgoajaaDoorAm4
import Derived.Test.YticifcoffgoajaaDoorRows
import Derived.Shelf.Vars
import Derived.Stop.Joined
import Derived.Stop.LaidErr
set_option linter.unusedVariables false
set_option linter.unusedSimpArgs false
set_option maxRecDepth 100000
namespace Go.Proofs.LxA
open Go Go.Am Go.Proofs Go.RowKit Go.Proofs.YticifcoffgoajaaDoor
set_option linter.unusedSectionVars false

theorem laidOut : laidOutB Tryd.prog = true := by kernel_rfl
theorem cells9 : Tryd.prog.cellsOf 9 = 1 := by kernel_rfl
theorem bytes9 : Tryd.prog.bytesOf 9 = 16 := by kernel_rfl
theorem ownKnobs : ownKnob Tryd.prog.godebug = none := by kernel_rfl

theorem asciiData : (Rows.laid_strings_asciiSpace : DataW Unit) = Lib.tabData .u8 Lib.asciiSpaceTab := by kernel_rfl

/-- What the seat's rows ask of the world is what the box wants. -/
theorem box (W : World) (h : W.ShapedOpen Tryd.prog) (hl : laidMetH Tryd.prog Rows.lexerScansRow.laid W) : (default : LaidBox).ok W := by
  rw [MakeChecks.laidMetH_plain _ _ _ (by kernel_rfl)] at hl
  refine ⟨cell_of_shapedOpen_int (g := 2) (t := 3) (k := .i64) h (of_decide_eq_true (by kernel_rfl)) (zero := #[.int .i64 0]) (by kernel_rfl) rfl (by kernel_rfl) (by kernel_rfl) Tryd.underlying3, ?_⟩
  have h2 := hl.tail.tail
  rw [asciiData] at h2
  exact Lib.tabIs_of_head (g := 0) (t := 64) (e := 5) (n := 256) gsp (by kernel_rfl) Tryd.underlying64 Tryd.underlying5 (by kernel_rfl) (by kernel_rfl) h2

theorem strs_of {n : Nat} {l : List AV} (h : Am.Looks Tryd.prog reachBytes n 22 l) : ∃ own ss, l = [.sl own 1 (strs ss)] ∧ ss.length ≤ 9223372036854775806 ∧ ∀ s ∈ ss, s.length ≤ 9223372036854775806 := by
  obtain ⟨o, ss, e, h1, h2⟩ := h.strs Tryd.underlying22 Tryd.underlying9 cells9 (by rw [bytes9]; omega)
  unfold reachBytes at *
  exact ⟨o, ss, e, by omega, fun s hs => by have := h2 s hs; omega⟩
theorem str_of {n : Nat} {l : List AV} (h : Am.Looks Tryd.prog reachBytes n 9 l) : ∃ s, l = [.str s] ∧ s.length ≤ 9223372036854775806 := by
  obtain ⟨s, e, hs⟩ := h.string Tryd.underlying9
  unfold reachBytes at hs
  exact ⟨s, e, by omega⟩
theorem byte_of {n : Nat} {l : List AV} (h : Am.Looks Tryd.prog reachBytes n 5 l) : ∃ a : Nat, a ≤ 255 ∧ l = [.int .u8 (a : Int)] := by
  obtain ⟨z, e, hz⟩ := h.int Tryd.underlying5
  simp only [Lit.wf, Bool.and_eq_true, decide_eq_true_eq] at hz
  have h1 : IntKind.u8.min = 0 := by decide
  have h2 : IntKind.u8.max = 255 := by decide
  rw [h1, h2] at hz
  exact ⟨z.toNat, by omega, by rw [e, Int.toNat_of_nonneg hz.1]⟩
end Go.Proofs.LxA
