/- 'euclidlaw24.LexerNames returns true for every length of a name, every first letter and every length of a number.' The row and its tied card, proved.
   The conditions are the row's own: the listed tables of strings, unicode and unicode/utf8 are laid as the program's text lays them; arguments are read as data; each string and slice is within the form's own reach. -/
import Derived.Test.YticifcoffgoajaaDoorLxLG
import Derived.Test.YticifcoffgoajaaDoorLxCc
import Derived.Test.YticifcoffgoajaaDoorTie
import Derived.Test.YticifcoffgoajaaDoorCards
set_option linter.unusedVariables false
set_option linter.unusedSimpArgs false
set_option maxRecDepth 100000
namespace Go.Proofs.YticifcoffgoajaaDoor
open Go Go.Am Go.Proofs Go.RowKit Go.Proofs.LxA
set_option linter.unusedSectionVars false

theorem core (xs : List AV) (h : ArgsLook Tryd.prog reachBytes Tryd.f8.params.toList xs) : Pure Tryd.prog 8 xs (.bool true) := by
  rw [Tryd.params8] at h
  match xs, h with
  | [a, b, c], ⟨⟨n, l, e1, h1, h2⟩, ⟨m, l2, e2, h3, h4⟩, ⟨k, l3, e3, h5, h6⟩, _⟩ =>
    obtain ⟨r, hr, rfl⟩ := byte_of h2
    obtain ⟨p, hp, rfl⟩ := byte_of h4
    obtain ⟨q, hq, rfl⟩ := byte_of h6
    subst e1; subst e2; subst e3
    exact names_law r p q hr hp hq

theorem lifted (os : Os) (started : os.Started) (H : Type) (enc : TypeId × Value → H) :
    ReturnsInHanded {} Tryd.checked os 8 .any (fun w args => (Rows.lexerNamesSpec.pre enc Tryd.prog Tryd.f8 Rows.lexerNamesRow.domain false w args ∧ laidMetH Tryd.prog Rows.lexerNamesRow.laid w) ∧ sizedMet enc Tryd.prog Tryd.f8 (OpenSpec.ofChange Rows.lexerNamesSpec) false w args)
      (Rows.lexerNamesSpec.post enc Tryd.prog Tryd.f8 false true false false) :=
  lifted_of (C := Tryd.checked) (X := fun w _ => laidMetH Tryd.prog Rows.lexerNamesRow.laid w) (tb := 4) (fun _ _ _ hh h => h.of_heap hh) ownKnobs started (by kernel_rfl) Tryd.func8 laidOut (by kernel_rfl) rfl
    (fun ds hd => by
      rw [Tryd.params8] at hd
      match ds, hd with
      | [d1, d2, d3], _ => rfl) (by kernel_rfl) (by kernel_rfl)
    (ChangeSpec.witness_shaped (enc := enc) (C := Tryd.checked) (os := os) (X := fun w _ => laidMetH Tryd.prog Rows.lexerNamesRow.laid w) false (World.laidAll Tryd.prog os Rows.lexerNamesRow.laid) #[.int .u8 0, .int .u8 0, .int .u8 0] 8 (World.laidAll_os _ _ _)
      (World.shaped_of_ZipB (by kernel_rfl) (by kernel_rfl)) (by kernel_rfl) (by kernel_rfl) (by kernel_rfl)
      (by rw [MakeChecks.laidMetH_plain _ _ _ (by kernel_rfl)]; exact laidMet_laidAll _ (by kernel_rfl) (by kernel_rfl)))
    (fun W _ h hl => box W h hl) core

theorem holds : Rows.LexerNamesSaid :=
  OpenClaim.holds_of_wide 8 Tryd.f8 rfl rfl rfl rfl rfl rfl rfl ⟨rfl, rfl, rfl, rfl, rfl⟩ rfl rfl rfl rfl rfl (by kernel_rfl) Tryd.func8 (by kernel_rfl)
    (of_decide_eq_true (by kernel_rfl)) (by unfold Func.isWrapper; first | (rw [if_pos (by decide +kernel)]; kernel_rfl) | (rw [if_neg (by decide +kernel)]; exact ⟨rfl, rfl⟩))
    (fun os started H enc _ => lifted os started H enc)

theorem card_holds : Rows.LexerNamesCardSaid :=
  Claim7.holds_tied_plain_at .later [] [.data, .listed, .data, .pinned] true (true, "e2af343f2ae903a0884ebf21212320998805ad063e94940778c25ab705da546c") false holds (fun _ h => by cases h) (by kernel_rfl) (fun _ h => by cases h) lexerNames_row_tie rfl ⟨rfl, rfl⟩ (by kernel_rfl) rfl
    (fun f fn hf hfn => by
      obtain rfl : f = 8 := Option.some.inj ((show Tryd.prog.funcNamed "euclid/euclidlaw24.LexerNames" = some 8 by kernel_rfl).symm.trans hf) |>.symm
      obtain rfl : fn = Tryd.f8 := (Option.some.inj (Tryd.func8.symm.trans hfn)).symm
      exact ⟨by kernel_rfl, fun j t ht => by
        rw [Tryd.params8] at ht
        have hm : t ∈ [5, 5, 5] := by simpa using Array.mem_of_getElem? ht
        have hall : ([5, 5, 5].all fun u => !Tryd.prog.wantsStandIn u) = true := by kernel_rfl
        exact (show Tryd.prog.wantsStandIn t = false by simpa using List.all_eq_true.1 hall t hm)⟩)
    (by kernel_rfl)
#print axioms holds
#print axioms card_holds
end Go.Proofs.YticifcoffgoajaaDoor
