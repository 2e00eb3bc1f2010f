/- 'euclidlaw27.ScopeResolves' returns true for every state and name, and leaves its arguments as they were: the row and its tied card, proved.
   The conditions are the row's own: the listed tables of unicode/utf8 are laid as the program's text lays them; arguments are read as data; each string and slice is within the form's own reach. -/
import Derived.Test.YtpephlhhdefdgaaDoorScQ
import Derived.Test.YtpephlhhdefdgaaDoorAmY
import Derived.Test.YtpephlhhdefdgaaDoorTie
import Derived.Test.YtpephlhhdefdgaaDoorCards
import Derived.Shelf.Vars
import Derived.Stop.Joined
set_option linter.unusedVariables false
set_option linter.unusedSimpArgs false
set_option maxRecDepth 100000
namespace Go.Proofs.YtpephlhhdefdgaaDoor
open Go Go.Am Go.Proofs Go.RowKit Go.Proofs.ScA
set_option linter.unusedSectionVars false

theorem core (xs : List AV) (h : ArgsLook Tryd.prog reachBytes Tryd.f3.params.toList xs) : Pure Tryd.prog 3 xs (.bool true) := by
  rw [Tryd.params3] at h
  match xs, h with
  | [a, b], ⟨⟨n, l, e1, h1, h2⟩, ⟨m, l', e2, h3, h4⟩, _⟩ =>
    obtain ⟨s, rfl, hs⟩ := state_of h1 h2
    obtain ⟨nm, rfl, hn⟩ := h4.string Tryd.underlying9
    subst e1; subst e2
    exact law_spec s hs nm (by unfold okL; unfold reachBytes at hn; omega)

theorem ownKnobs : ownKnob Tryd.prog.godebug = none := by kernel_rfl

theorem box (W : World) (h : W.ShapedOpen Tryd.prog) : (default : LaidBox).ok W :=
  cell_of_shapedOpen_int (g := 0) (t := 3) (k := .i64) h (of_decide_eq_true (by kernel_rfl)) (zero := #[.int .i64 0]) (by kernel_rfl) rfl (by kernel_rfl) (by kernel_rfl) Tryd.underlying3

theorem lifted (os : Os) (started : os.Started) (H : Type) (enc : TypeId × Value → H) :
    ReturnsInHanded {} Tryd.checked os 3 .any (fun w args => (Rows.scopeResolvesSpec.pre enc Tryd.prog Tryd.f3 Rows.scopeResolvesRow.domain false w args ∧ laidMetH Tryd.prog Rows.scopeResolvesRow.laid w) ∧ sizedMet enc Tryd.prog Tryd.f3 (OpenSpec.ofChange Rows.scopeResolvesSpec) false w args)
      (Rows.scopeResolvesSpec.post enc Tryd.prog Tryd.f3 false true false false) :=
  lifted_of (C := Tryd.checked) (X := fun w _ => laidMetH Tryd.prog Rows.scopeResolvesRow.laid w) (tb := 4) (fun _ _ _ hh h => h.of_heap hh) ownKnobs started (by kernel_rfl) Tryd.func3 laidOut (by kernel_rfl) rfl
    (fun ds hd => by
      rw [Tryd.params3] at hd
      match ds, hd with
      | [d1, d2], _ => rfl) (by kernel_rfl) (by kernel_rfl)
    (ChangeSpec.witness_shaped (enc := enc) (C := Tryd.checked) (os := os) (X := fun w _ => laidMetH Tryd.prog Rows.scopeResolvesRow.laid w) false (World.laidAll Tryd.prog os Rows.scopeResolvesRow.laid) #[.agg #[.slice none 0 0, .slice none 0 0, .slice none 0 0, .slice none 0 0, .slice none 0 0, .slice none 0 0, .slice none 0 0], .string ByteArray.empty] 8 (World.laidAll_os _ _ _)
      (World.shaped_of_ZipB (by kernel_rfl) (by kernel_rfl)) (by kernel_rfl) (by kernel_rfl) (by kernel_rfl)
      (by rw [MakeChecks.laidMetH_plain _ _ _ (by kernel_rfl)]; exact laidMet_laidAll _ (by kernel_rfl) (by kernel_rfl)))
    (fun W _ h _ => box W h) core

theorem holds : Rows.ScopeResolvesSaid :=
  OpenClaim.holds_of_wide 3 Tryd.f3 rfl rfl rfl rfl rfl rfl rfl ⟨rfl, rfl, rfl, rfl, rfl⟩ rfl rfl rfl rfl rfl (by kernel_rfl) Tryd.func3 (by kernel_rfl)
    (of_decide_eq_true (by kernel_rfl)) (by unfold Func.isWrapper; first | (rw [if_pos (by decide +kernel)]; kernel_rfl) | (rw [if_neg (by decide +kernel)]; exact ⟨rfl, rfl⟩))
    (fun os started H enc _ => lifted os started H enc)

theorem card_holds : Rows.ScopeResolvesCardSaid :=
  Claim7.holds_tied_plain_at .later [] [.data, .pinned] true (true, "7502a233006465ac3819551b4f264f6812c3e5d4889223cafad4986d7a2aca4e") false holds (fun _ h => by cases h) (by kernel_rfl) (fun _ h => by cases h) scopeResolves_row_tie rfl ⟨rfl, rfl⟩ (by kernel_rfl) rfl
    (fun f fn hf hfn => by
      obtain rfl : f = 3 := Option.some.inj ((show Tryd.prog.funcNamed "euclid/euclidlaw27.ScopeResolves" = some 3 by kernel_rfl).symm.trans hf) |>.symm
      obtain rfl : fn = Tryd.f3 := (Option.some.inj (Tryd.func3.symm.trans hfn)).symm
      exact ⟨by kernel_rfl, fun j t ht => by
        rw [Tryd.params3] at ht
        have hm : t ∈ [27, 9] := by simpa using Array.mem_of_getElem? ht
        have hall : ([27, 9].all fun u => !Tryd.prog.wantsStandIn u) = true := by kernel_rfl
        exact (show Tryd.prog.wantsStandIn t = false by simpa using List.all_eq_true.1 hall t hm)⟩)
    (by kernel_rfl)
#print axioms holds
#print axioms card_holds
end Go.Proofs.YtpephlhhdefdgaaDoor
