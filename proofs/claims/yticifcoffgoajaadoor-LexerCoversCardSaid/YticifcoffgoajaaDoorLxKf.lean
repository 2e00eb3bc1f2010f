/- 'euclidlaw24.LexerCovers returns true for every source and all symbols, and leaves its arguments as they were.' The row and its tied card, proved.
   The conditions are the row's own: the listed tables of strings, unicode and unicode/utf8 are laid as the program's text lays them; arguments are read as data; each string and slice is within the form's own reach. -/
import Derived.Test.YticifcoffgoajaaDoorLxLF
import Derived.Test.YticifcoffgoajaaDoorLxCc
import Derived.Test.YticifcoffgoajaaDoorTie
import Derived.Test.YticifcoffgoajaaDoorCards
set_option linter.unusedVariables false
set_option linter.unusedSimpArgs false
set_option maxRecDepth 100000
namespace Go.Proofs.YticifcoffgoajaaDoor
open Go Go.Am Go.Proofs Go.RowKit Go.Proofs.LxA
set_option linter.unusedSectionVars false

theorem core (xs : List AV) (h : ArgsLook Tryd.prog reachBytes Tryd.f5.params.toList xs) : Pure Tryd.prog 5 xs (.bool true) := by
  rw [Tryd.params5] at h
  match xs, h with
  | [a, b], ⟨⟨n, l, e1, h1, h2⟩, ⟨m, l2, e2, h3, h4⟩, _⟩ =>
    obtain ⟨s, rfl, hs⟩ := str_of h2
    obtain ⟨own, sy, rfl, hn, _⟩ := strs_of h4
    subst e1; subst e2
    exact covers_law own s sy hs hn

theorem lifted (os : Os) (started : os.Started) (H : Type) (enc : TypeId × Value → H) :
    ReturnsInHanded {} Tryd.checked os 5 .any (fun w args => (Rows.lexerCoversSpec.pre enc Tryd.prog Tryd.f5 Rows.lexerCoversRow.domain false w args ∧ laidMetH Tryd.prog Rows.lexerCoversRow.laid w) ∧ sizedMet enc Tryd.prog Tryd.f5 (OpenSpec.ofChange Rows.lexerCoversSpec) false w args)
      (Rows.lexerCoversSpec.post enc Tryd.prog Tryd.f5 false true false false) :=
  lifted_of (C := Tryd.checked) (X := fun w _ => laidMetH Tryd.prog Rows.lexerCoversRow.laid w) (tb := 4) (fun _ _ _ hh h => h.of_heap hh) ownKnobs started (by kernel_rfl) Tryd.func5 laidOut (by kernel_rfl) rfl
    (fun ds hd => by
      rw [Tryd.params5] at hd
      match ds, hd with
      | [d1, d2], _ => rfl) (by kernel_rfl) (by kernel_rfl)
    (ChangeSpec.witness_shaped (enc := enc) (C := Tryd.checked) (os := os) (X := fun w _ => laidMetH Tryd.prog Rows.lexerCoversRow.laid w) false (World.laidAll Tryd.prog os Rows.lexerCoversRow.laid) #[.string ByteArray.empty, .slice none 0 0] 8 (World.laidAll_os _ _ _)
      (World.shaped_of_ZipB (by kernel_rfl) (by kernel_rfl)) (by kernel_rfl) (by kernel_rfl) (by kernel_rfl)
      (by rw [MakeChecks.laidMetH_plain _ _ _ (by kernel_rfl)]; exact laidMet_laidAll _ (by kernel_rfl) (by kernel_rfl)))
    (fun W _ h hl => box W h hl) core

theorem holds : Rows.LexerCoversSaid :=
  OpenClaim.holds_of_wide 5 Tryd.f5 rfl rfl rfl rfl rfl rfl rfl ⟨rfl, rfl, rfl, rfl, rfl⟩ rfl rfl rfl rfl rfl (by kernel_rfl) Tryd.func5 (by kernel_rfl)
    (of_decide_eq_true (by kernel_rfl)) (by unfold Func.isWrapper; first | (rw [if_pos (by decide +kernel)]; kernel_rfl) | (rw [if_neg (by decide +kernel)]; exact ⟨rfl, rfl⟩))
    (fun os started H enc _ => lifted os started H enc)

theorem card_holds : Rows.LexerCoversCardSaid :=
  Claim7.holds_tied_plain_at .later [] [.data, .listed, .data, .pinned] true (true, "e2af343f2ae903a0884ebf21212320998805ad063e94940778c25ab705da546c") false holds (fun _ h => by cases h) (by kernel_rfl) (fun _ h => by cases h) lexerCovers_row_tie rfl ⟨rfl, rfl⟩ (by kernel_rfl) rfl
    (fun f fn hf hfn => by
      obtain rfl : f = 5 := Option.some.inj ((show Tryd.prog.funcNamed "euclid/euclidlaw24.LexerCovers" = some 5 by kernel_rfl).symm.trans hf) |>.symm
      obtain rfl : fn = Tryd.f5 := (Option.some.inj (Tryd.func5.symm.trans hfn)).symm
      exact ⟨by kernel_rfl, fun j t ht => by
        rw [Tryd.params5] at ht
        have hm : t ∈ [9, 22] := by simpa using Array.mem_of_getElem? ht
        have hall : ([9, 22].all fun u => !Tryd.prog.wantsStandIn u) = true := by kernel_rfl
        exact (show Tryd.prog.wantsStandIn t = false by simpa using List.all_eq_true.1 hall t hm)⟩)
    (by kernel_rfl)
#print axioms holds
#print axioms card_holds
end Go.Proofs.YticifcoffgoajaaDoor
