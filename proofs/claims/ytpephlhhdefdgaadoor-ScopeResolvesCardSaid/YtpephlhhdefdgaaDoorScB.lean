import Derived.Test.YtpephlhhdefdgaaDoorScAF
import Derived.Test.YtpephlhhdefdgaaDoorScShelf
set_option linter.unusedVariables false
set_option linter.unusedSimpArgs false
set_option maxRecDepth 100000
namespace Go.Proofs.ScA
open Go Go.Am Go.Proofs Go.RowKit
set_option linter.unusedSectionVars false

instance laidBox : Inhabited LaidBox := ⟨⟨fun W => ∃ m, W.cell? ⟨0, 0, none⟩ = some (.int .i64 m)⟩⟩

theorem has36 : Has Tryd.prog 36 := ⟨_, Tryd.func36, by kernel_rfl, by decide⟩
theorem has25 : Has Tryd.prog 25 := ⟨_, Tryd.func25, by kernel_rfl, by decide⟩

theorem cargs_two {cargs : Array Value} {c1 c2 : Value} (h : cargs.toList = [c1, c2]) : cargs = #[c1, c2] := by
  apply Array.ext'; simpa using h

theorem join_spec (own : Own) (l : List (List UInt8)) (sep : List UInt8) (hN : l.length ≤ 140737488355328) (hlen : (Lib.join l sep).length ≤ 140737488355328) :
    Pure Tryd.prog 36 [.sl own 1 (strs l), .str sep] (.str (Lib.join l sep)) := by
  refine Pure.of_lib fun B E MM w cargs hs hargs => ?_
  obtain ⟨c1, c2, hc, h1, h2⟩ := hargs.two_inv
  cases cargs_two hc
  cases h2 with
  | str s =>
    have none_ : ∀ a c, strs l = [] → Calls Tryd.prog 36 #[.slice a 0 c, .string s] w fun e w' => ∃ c, e = .returned c ∧ Rep E (.str (Lib.join l s.data.toList)) c ∧ Below w.heap.size w w' := by
      intro a c hl
      have hl0 : l = [] := by cases l <;> first | rfl | cases hl
      subst hl0
      refine (Tryd.strings_Join_none a c s w).mono ?_
      rintro e w' ⟨rfl, rfl⟩
      exact ⟨_, rfl, .str ⟨#[]⟩, Below.refl _ _⟩
    rcases h1.sl_inv3 with ⟨rfl, hl, _⟩ | ⟨a, rfl, hl, _⟩ | ⟨b, o, cap, rfl, hes, hcap, _⟩
    · exact none_ _ _ hl
    · exact none_ _ _ hl
    · by_cases hl : l = []
      · subst hl
        exact none_ _ _ rfl
      · obtain ⟨xs, rfl, hx⟩ := hes.strs
        have hxl : xs.length = (strs (xs.map (·.data.toList))).length := by simp [strs]
        obtain ⟨G, nr, hs0⟩ := id hs
        have hpos : 0 < xs.length := by
          cases xs with
          | nil => exact absurd rfl hl
          | cons x xs => simp
        have hcell : ∀ (j : Nat) x, xs[j]? = some x → w.cell? ⟨b, o + j, none⟩ = some (.string x) := fun j x hj => hs0.cell _ _ _ (hx j x hj)
        have hbk := cell_lt (hcell 0 xs[0] (List.getElem?_eq_getElem hpos))
        rw [← hxl] at hcap ⊢
        refine (Tryd.strings_Join b o cap xs s w hcell hbk (by simpa using hN) hcap hlen).mono ?_
        rintro e w' ⟨rfl, hb⟩
        exact ⟨_, rfl, by simpa using Rep.str (E := E) ⟨(Lib.join (xs.map (·.data.toList)) s.data.toList).toArray⟩, hb⟩

/-- The pieces of a string between points. -/
def splitD (s : List UInt8) : List (List UInt8) := Lib.split s [46]
theorem splitD_eq (s : ByteArray) : splitD s.data.toList = (Lib.splitB ⟨#[46]⟩ 0 (Lib.countB s ⟨#[46]⟩) s).map (·.data.toList) := by
  rw [Lib.splitB_data]; rfl

theorem split_spec (s : List UInt8) (hlen : s.length ≤ 1000000) : Pure Tryd.prog 25 [.str s, .str [46]] (.sl .full 1 (strs (splitD s))) := by
  refine Pure.of_new (by simp [strs, AV.cells]) (by rw [flat_strs]; simp [strs, AV.one]) fun B E MM w cargs hs hargs => ?_
  obtain ⟨c1, c2, hc, h1, h2⟩ := hargs.two_inv
  cases cargs_two hc
  obtain ⟨G, nr, hs0⟩ := id hs
  obtain ⟨m, hm⟩ := hs0.ok.1
  generalize hsep : ([46] : List UInt8) = sp at h2
  cases h2 with
  | str sep =>
    have hsp : sep = ⟨#[46]⟩ := by
      have : sep.data = #[46] := by apply Array.ext'; rw [← hsep]
      cases sep; simp only at this; rw [this]
    subst hsp
    cases h1 with
    | str s0 =>
      have hm' : w.cell? ⟨0, 0, none⟩ = some (.int .i64 m) := by
        have hlt := cell_lt hm
        rw [hs0.ok.2] at hlt
        rw [World.cell?_of_block (w := E.base) (hs0.old 0 hlt)]; exact hm
      have hsz : s0.size ≤ 1000000 := by
        have : s0.size = s0.data.toList.length := by simp
        omega
      refine (Tryd.strings_Split s0 ⟨#[46]⟩ m w (by omega) hm' (by decide)).mono ?_
      rintro e w' ⟨rfl, rfl⟩
      have hlen2 : (strs (splitD s0.data.toList)).length = Lib.countB s0 ⟨#[46]⟩ + 1 := by
        rw [splitD_eq, strs_len, List.length_map]
        exact Lib.splitB_all ⟨#[46]⟩ (by decide) 0 _ s0 rfl
      refine ⟨(Lib.splitB ⟨#[46]⟩ 0 (Lib.countB s0 ⟨#[46]⟩) s0).map Value.string, 9, ?_, by rw [hlen2], rfl⟩
      rw [flat_strs, splitD_eq]
      unfold strs
      rw [List.map_map]
      exact RepL.map_of _ _ _ fun x _ => by simpa using Rep.str (E := E) x
end Go.Proofs.ScA
