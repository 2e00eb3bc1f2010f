import Derived.Test.YtpephlhhdefdgaaDoorScP
import Derived.Test.YtpephlhhdefdgaaDoorAmW
set_option linter.unusedVariables false
set_option linter.unusedSimpArgs false
set_option maxRecDepth 100000
namespace Go.Proofs.ScA
open Go Go.Am Go.Proofs Go.RowKit
set_option linter.unusedSectionVars false

theorem laidOut : laidOutB Tryd.prog = true := by kernel_rfl
theorem cells3 : Tryd.prog.cellsOf 3 = 1 := by kernel_rfl
theorem cells9 : Tryd.prog.cellsOf 9 = 1 := by kernel_rfl
theorem cells22 : Tryd.prog.cellsOf 22 = 1 := by kernel_rfl
theorem cells24 : Tryd.prog.cellsOf 24 = 1 := by kernel_rfl
theorem cells27 : Tryd.prog.cellsOf 27 = 7 := by kernel_rfl
theorem cells41 : Tryd.prog.cellsOf 41 = 1 := by kernel_rfl
theorem cells44 : Tryd.prog.cellsOf 44 = 1 := by kernel_rfl
theorem cells46 : Tryd.prog.cellsOf 46 = 23 := by kernel_rfl
theorem cells48 : Tryd.prog.cellsOf 48 = 6 := by kernel_rfl
theorem cells53 : Tryd.prog.cellsOf 53 = 15 := by kernel_rfl
theorem bytes9 : Tryd.prog.bytesOf 9 = 16 := by kernel_rfl
theorem bytes46 : 0 < Tryd.prog.bytesOf 46 := of_decide_eq_true (by kernel_rfl)
theorem bytes48 : 0 < Tryd.prog.bytesOf 48 := of_decide_eq_true (by kernel_rfl)
theorem bytes53 : 0 < Tryd.prog.bytesOf 53 := of_decide_eq_true (by kernel_rfl)

variable {m : Nat} {l : List AV}
theorem ctor_of (h1 : ∀ v ∈ l, v.one = true) (h : Looks Tryd.prog reachBytes m 48 l) : ∃ d : CA, l = ctorC d ∧ okL d.name.length := by
  obtain ⟨hl, k, hf⟩ := h.struct Tryd.underlying48
  rw [cells48] at hl
  match l, hl with
  | [a0, a1, a2, a3, a4, a5], _ =>
    have h0 : Looks Tryd.prog reachBytes k 9 [a0] := Looks.field hf 0 cells9 ⟨_, rfl, rfl, rfl⟩
    obtain ⟨s, e, hs⟩ := h0.string Tryd.underlying9
    cases e
    exact ⟨⟨s, ⟨a1, h1 _ (by simp)⟩, ⟨a2, h1 _ (by simp)⟩, ⟨a3, h1 _ (by simp)⟩, ⟨a4, h1 _ (by simp)⟩, ⟨a5, h1 _ (by simp)⟩⟩, rfl, by unfold okL; unfold reachBytes at hs; show s.length ≤ _; omega⟩

theorem fun_of (h1 : ∀ v ∈ l, v.one = true) (h : Looks Tryd.prog reachBytes m 53 l) : ∃ d : FA, l = funC d ∧ okL d.name.length := by
  obtain ⟨hl, k, hf⟩ := h.struct Tryd.underlying53
  rw [cells53] at hl
  match l, hl with
  | [a0, a1, a2, a3, a4, a5, a6, a7, a8, a9, a10, a11, a12, a13, a14], _ =>
    have h0 : Looks Tryd.prog reachBytes k 9 [a0] := Looks.field hf 0 cells9 ⟨_, rfl, rfl, rfl⟩
    obtain ⟨s, e, hs⟩ := h0.string Tryd.underlying9
    cases e
    exact ⟨⟨s, ⟨a1, h1 _ (by simp)⟩, ⟨a2, h1 _ (by simp)⟩, ⟨a3, h1 _ (by simp)⟩, ⟨a4, h1 _ (by simp)⟩, ⟨a5, h1 _ (by simp)⟩, ⟨a6, h1 _ (by simp)⟩, ⟨a7, h1 _ (by simp)⟩, ⟨a8, h1 _ (by simp)⟩,
      ⟨a9, h1 _ (by simp)⟩, ⟨a10, h1 _ (by simp)⟩, ⟨a11, h1 _ (by simp)⟩, ⟨a12, h1 _ (by simp)⟩, ⟨a13, h1 _ (by simp)⟩, ⟨a14, h1 _ (by simp)⟩⟩, rfl, by unfold okL; unfold reachBytes at hs; show s.length ≤ _; omega⟩

theorem decl_of (h1 : ∀ v ∈ l, v.one = true) (h : Looks Tryd.prog reachBytes m 46 l) : ∃ d : DA, l = declC d ∧ okD d := by
  obtain ⟨hl, k, hf⟩ := h.struct Tryd.underlying46
  rw [cells46] at hl
  match l, hl with
  | [a0, a1, a2, a3, a4, a5, a6, a7, a8, a9, a10, a11, a12, a13, a14, a15, a16, a17, a18, a19, a20, a21, a22], _ =>
    have g0 : Looks Tryd.prog reachBytes k 3 [a0] := Looks.field hf 0 cells3 ⟨_, rfl, rfl, rfl⟩
    have g1 : Looks Tryd.prog reachBytes k 9 [a1] := Looks.field hf 1 cells9 ⟨_, rfl, rfl, rfl⟩
    have g6 : Looks Tryd.prog reachBytes k 41 [a14] := Looks.field hf 6 cells41 ⟨_, rfl, rfl, rfl⟩
    have g8 : Looks Tryd.prog reachBytes k 44 [a22] := Looks.field hf 8 cells44 ⟨_, rfl, rfl, rfl⟩
    obtain ⟨z, e, _⟩ := g0.int Tryd.underlying3
    cases e
    obtain ⟨s, e, hs⟩ := g1.string Tryd.underlying9
    cases e
    obtain ⟨oc, cs, e, hc1, hc2⟩ := g6.rows ctorC (fun d => okL d.name.length) Tryd.underlying41 (by kernel_rfl) cells48 (by omega) bytes48 fun m c a b => ctor_of a b
    cases e
    obtain ⟨ofn, fs, e, hf1, hf2⟩ := g8.rows funC (fun d => okL d.name.length) Tryd.underlying44 (by kernel_rfl) cells53 (by omega) bytes53 fun m c a b => fun_of a b
    cases e
    refine ⟨⟨z, s, ⟨a2, h1 _ (by simp)⟩, ⟨a3, h1 _ (by simp)⟩, ⟨a4, h1 _ (by simp)⟩, ⟨a5, h1 _ (by simp)⟩, ⟨a6, h1 _ (by simp)⟩, ⟨a7, h1 _ (by simp)⟩, ⟨a8, h1 _ (by simp)⟩,
      ⟨a9, h1 _ (by simp)⟩, ⟨a10, h1 _ (by simp)⟩, ⟨a11, h1 _ (by simp)⟩, ⟨a12, h1 _ (by simp)⟩, ⟨a13, h1 _ (by simp)⟩, oc, cs, ⟨a15, h1 _ (by simp)⟩, ⟨a16, h1 _ (by simp)⟩, ⟨a17, h1 _ (by simp)⟩, ⟨a18, h1 _ (by simp)⟩,
      ⟨a19, h1 _ (by simp)⟩, ⟨a20, h1 _ (by simp)⟩, ⟨a21, h1 _ (by simp)⟩, ofn, fs⟩, ?_, ?_⟩
    · rfl
    · unfold reachBytes at *
      refine ⟨?_, ?_, ?_, hc2, hf2⟩ <;> unfold okL
      · show s.length ≤ _; omega
      · show cs.length ≤ _; omega
      · show fs.length ≤ _; omega

theorem okS_of {ss : List (List UInt8)} (h : ss.length ≤ reachBytes) (h2 : ∀ s ∈ ss, s.length ≤ reachBytes) : okS ss := by
  unfold reachBytes at *
  exact ⟨by unfold okL; omega, fun s hs => by have := h2 s hs; unfold okL; omega⟩

theorem state_of (h1 : ∀ v ∈ l, v.one = true) (h : Looks Tryd.prog reachBytes m 27 l) : ∃ s : SA, l = stC s ∧ okSt s := by
  obtain ⟨hl, k, hf⟩ := h.struct Tryd.underlying27
  rw [cells27] at hl
  match l, hl with
  | [a0, a1, a2, a3, a4, a5, a6], _ =>
    have g0 : Looks Tryd.prog reachBytes k 22 [a0] := Looks.field hf 0 cells22 ⟨_, rfl, rfl, rfl⟩
    have g2 : Looks Tryd.prog reachBytes k 24 [a2] := Looks.field hf 2 cells24 ⟨_, rfl, rfl, rfl⟩
    have g3 : Looks Tryd.prog reachBytes k 24 [a3] := Looks.field hf 3 cells24 ⟨_, rfl, rfl, rfl⟩
    have g5 : Looks Tryd.prog reachBytes k 24 [a5] := Looks.field hf 5 cells24 ⟨_, rfl, rfl, rfl⟩
    have g6 : Looks Tryd.prog reachBytes k 24 [a6] := Looks.field hf 6 cells24 ⟨_, rfl, rfl, rfl⟩
    obtain ⟨o0, ds, e, he1, he2⟩ := g0.rows declC okD Tryd.underlying22 (by kernel_rfl) cells46 (by omega) bytes46 fun m c a b => decl_of a b
    cases e
    obtain ⟨o2, s2, e, h21, h22⟩ := g2.strs Tryd.underlying24 Tryd.underlying9 cells9 (by rw [bytes9]; omega)
    cases e
    obtain ⟨o3, s3, e, h31, h32⟩ := g3.strs Tryd.underlying24 Tryd.underlying9 cells9 (by rw [bytes9]; omega)
    cases e
    obtain ⟨o5, s5, e, h51, h52⟩ := g5.strs Tryd.underlying24 Tryd.underlying9 cells9 (by rw [bytes9]; omega)
    cases e
    obtain ⟨o6, s6, e, h61, h62⟩ := g6.strs Tryd.underlying24 Tryd.underlying9 cells9 (by rw [bytes9]; omega)
    cases e
    refine ⟨⟨o0, ds, ⟨a1, h1 _ (by simp)⟩, o2, s2, o3, s3, ⟨a4, h1 _ (by simp)⟩, o5, s5, o6, s6⟩, rfl, ?_, he2, okS_of h51 h52, okS_of h61 h62, okS_of h21 h22, okS_of h31 h32⟩
    unfold reachBytes at he1
    unfold okL
    show ds.length ≤ _; omega
end Go.Proofs.ScA
