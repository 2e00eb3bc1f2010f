/- 'euclidlaw24.LexerPrefixes returns true for every two strings.' The row and its tied card, proved.
   The conditions are the row's own: the listed tables of strings, unicode and unicode/utf8 are laid as the program's text lays them; arguments are read as data; each string and slice is within the form's own reach. -/
import Derived.Test.YticifcoffgoajaaDoorLxLC
import Derived.Test.YticifcoffgoajaaDoorLxCc
import Derived.Test.YticifcoffgoajaaDoorTie
import Derived.Test.YticifcoffgoajaaDoorCards
set_option linter.unusedVariables false
set_option linter.unusedSimpArgs false
set_option maxRecDepth 100000
namespace Go.Proofs.YticifcoffgoajaaDoor
open Go Go.Am Go.Proofs Go.RowKit Go.Proofs.LxA
set_option linter.unusedSectionVars false

theorem core (xs : List AV) (h : ArgsLook Tryd.prog reachBytes Tryd.f9.params.toList xs) : Pure Tryd.prog 9 xs (.bool true) := by
  rw [Tryd.params9] at h
  match xs, h with
  | [a, b], ⟨⟨n, l, e1, h1, h2⟩, ⟨m, l2, e2, h3, h4⟩, _⟩ =>
    obtain ⟨s, rfl, hs⟩ := str_of h2
    obtain ⟨r, rfl, hr⟩ := str_of h4
    subst e1; subst e2
    exact prefixes_law s r hs hr

theorem lifted (os : Os) (started : os.Started) (H : Type) (enc : TypeId × Value → H) :
    ReturnsInHanded {} Tryd.checked os 9 .any (fun w args => (Rows.lexerPrefixesSpec.pre enc Tryd.prog Tryd.f9 Rows.lexerPrefixesRow.domain false w args ∧ laidMetH Tryd.prog Rows.lexerPrefixesRow.laid w) ∧ sizedMet enc Tryd.prog Tryd.f9 (OpenSpec.ofChange Rows.lexerPrefixesSpec) false w args)
      (Rows.lexerPrefixesSpec.post enc Tryd.prog Tryd.f9 false true false false) :=
  lifted_of (C := Tryd.checked) (X := fun w _ => laidMetH Tryd.prog Rows.lexerPrefixesRow.laid w) (tb := 4) (fun _ _ _ hh h => h.of_heap hh) ownKnobs started (by kernel_rfl) Tryd.func9 laidOut (by kernel_rfl) rfl
    (fun ds hd => by
      rw [Tryd.params9] at hd
      match ds, hd with
      | [d1, d2], _ => rfl) (by kernel_rfl) (by kernel_rfl)
    (ChangeSpec.witness_shaped (enc := enc) (C := Tryd.checked) (os := os) (X := fun w _ => laidMetH Tryd.prog Rows.lexerPrefixesRow.laid w) false (World.laidAll Tryd.prog os Rows.lexerPrefixesRow.laid) #[.string ByteArray.empty, .string ByteArray.empty] 8 (World.laidAll_os _ _ _)
      (World.shaped_of_ZipB (by kernel_rfl) (by kernel_rfl)) (by kernel_rfl) (by kernel_rfl) (by kernel_rfl)
      (by rw [MakeChecks.laidMetH_plain _ _ _ (by kernel_rfl)]; exact laidMet_laidAll _ (by kernel_rfl) (by kernel_rfl)))
    (fun W _ h hl => box W h hl) core

theorem holds : Rows.LexerPrefixesSaid :=
  OpenClaim.holds_of_wide 9 Tryd.f9 rfl rfl rfl rfl rfl rfl rfl ⟨rfl, rfl, rfl, rfl, rfl⟩ rfl rfl rfl rfl rfl (by kernel_rfl) Tryd.func9 (by kernel_rfl)
    (of_decide_eq_true (by kernel_rfl)) (by unfold Func.isWrapper; first | (rw [if_pos (by decide +kernel)]; kernel_rfl) | (rw [if_neg (by decide +kernel)]; exact ⟨rfl, rfl⟩))
    (fun os started H enc _ => lifted os started H enc)

theorem card_holds : Rows.LexerPrefixesCardSaid :=
  Claim7.holds_tied_plain_at .later [] [.data, .listed, .data, .pinned] true (true, "e2af343f2ae903a0884ebf21212320998805ad063e94940778c25ab705da546c") false holds (fun _ h => by cases h) (by kernel_rfl) (fun _ h => by cases h) lexerPrefixes_row_tie rfl ⟨rfl, rfl⟩ (by kernel_rfl) rfl
    (fun f fn hf hfn => by
      obtain rfl : f = 9 := Option.some.inj ((show Tryd.prog.funcNamed "euclid/euclidlaw24.LexerPrefixes" = some 9 by kernel_rfl).symm.trans hf) |>.symm
      obtain rfl : fn = Tryd.f9 := (Option.some.inj (Tryd.func9.symm.trans hfn)).symm
      exact ⟨by kernel_rfl, fun j t ht => by
        rw [Tryd.params9] at ht
        have hm : t ∈ [9, 9] := by simpa using Array.mem_of_getElem? ht
        have hall : ([9, 9].all fun u => !Tryd.prog.wantsStandIn u) = true := by kernel_rfl
        exact (show Tryd.prog.wantsStandIn t = false by simpa using List.all_eq_true.1 hall t hm)⟩)
    (by kernel_rfl)
#print axioms holds
#print axioms card_holds
end Go.Proofs.YticifcoffgoajaaDoor
