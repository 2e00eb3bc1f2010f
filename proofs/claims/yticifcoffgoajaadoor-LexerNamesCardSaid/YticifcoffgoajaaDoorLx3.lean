import Derived.Test.YticifcoffgoajaaDoorLx2
import Derived.Test.YticifcoffgoajaaDoorLxShelf
set_option linter.unusedVariables false
set_option linter.unusedSimpArgs false
set_option maxRecDepth 100000
namespace Go.Proofs.LxA
open Go Go.Am Go.Proofs Go.RowKit
set_option linter.unusedSectionVars false

def spI (b : UInt8) : Int := if Lib.isSp b then 1 else 0
def spTab (g i : Nat) : Option (IntKind × Int) := if g = 0 ∧ i < 256 then some (.u8, spI (UInt8.ofNat i)) else none

theorem gsp : Tryd.prog.globalNamed "strings.asciiSpace" = some 0 := by kernel_rfl

/-- What is known of the world in which a call begins: a number of the library's, and its table of white space. -/
instance laidBox : Inhabited LaidBox := ⟨{
  ok := fun W => (∃ m, W.cell? ⟨2, 0, none⟩ = some (.int .i64 m)) ∧ Lib.TabIs Tryd.prog W "strings.asciiSpace" .u8 Lib.asciiSpaceTab
  tab := spTab
  sound := fun W h g i k z e => by
    unfold spTab at e
    split at e
    · rename_i hc
      obtain ⟨rfl, hi⟩ := hc
      cases e
      have := Lib.TabIs.cell h.2 gsp i (by rw [Lib.asciiSpaceTab_length]; exact hi)
      rw [Lib.asciiSpaceTab_at i hi] at this
      exact this
    · cases e }⟩

theorem tab_at (b : UInt8) : (default : LaidBox).tab 0 b.toNat = some (.u8, spI b) := by
  show spTab 0 b.toNat = _
  have : b.toNat < 256 := b.toNat_lt
  simp [spTab, this]

theorem has36 : Has Tryd.prog 36 := ⟨_, Tryd.func36, by kernel_rfl, by decide⟩
theorem cargs_one {cargs : Array Value} {c1 : Value} (h : cargs.toList = [c1]) : cargs = #[c1] := by
  apply Array.ext'; simpa using h
theorem cargs_two {cargs : Array Value} {c1 c2 : Value} (h : cargs.toList = [c1, c2]) : cargs = #[c1, c2] := by
  apply Array.ext'; simpa using h

/-- The table, still there. -/
theorem tab_now {B : Nat} {E : Env} {M : Mem} {w : World} (hs : Sim B E M w) : Lib.TabIs Tryd.prog w "strings.asciiSpace" .u8 Lib.asciiSpaceTab := by
  obtain ⟨G, nr, hs0⟩ := hs
  have h := hs0.ok.1.2
  have h0 := Lib.TabIs.cell h gsp 0 (by rw [Lib.asciiSpaceTab_length]; omega)
  have hlt := cell_lt h0
  rw [hs0.ok.2] at hlt
  unfold Lib.TabIs at h ⊢
  rw [← h]
  unfold World.var?
  rw [gsp]
  simp only [Option.bind_some, hs0.old 0 hlt]

theorem fields_spec (s : List UInt8) (hlen : s.length ≤ 1000000) (ha : ∀ b ∈ s, b.toNat < 128) : Pure Tryd.prog 36 [.str s] (.sl .full 1 (strs (Lib.fields s))) := by
  refine Pure.of_new (by simp [strs, AV.cells]) (by rw [flat_strs]; simp [strs, AV.one]) fun B E MM w cargs hs hargs => ?_
  obtain ⟨c1, hc, h1⟩ := hargs.one_inv
  cases cargs_one hc
  cases h1 with
  | str s0 =>
    have hsz : s0.size ≤ 1000000 := by
      have : s0.size = s0.data.toList.length := by simp
      omega
    refine (Tryd.strings_Fields s0 w (by omega) (fun j b hj => ha b (List.mem_of_getElem? hj)) (tab_now hs)).mono ?_
    rintro e w' ⟨rfl, rfl⟩
    refine ⟨(Lib.fields s0.data.toList).map fun l => Value.string ⟨l.toArray⟩, 9, ?_, by rw [strs_len], rfl⟩
    rw [flat_strs]
    exact RepL.map_of _ _ _ fun x _ => by simpa using Rep.str (E := E) ⟨x.toArray⟩

def fixedT : List UInt8 := [40, 32, 41, 32, 40, 41, 32, 123, 32, 125, 32, 91, 32, 93, 32, 44, 32, 59, 32, 58, 32, 58, 61, 32, 45, 62, 32, 61, 62, 32, 124, 32, 64, 32, 43, 32, 95, 32, 46, 123, 32, 46, 49, 32, 46, 50, 32, 60, 124, 62]
theorem fixedT_eq : Lib.fields fixedT = fixedL := by decide +kernel

theorem fixedP_spec : Pure Tryd.prog 20 [] (.sl .full 1 (strs fixedL)) := fun M => by
  refine enter20 ?_
  simp only [cc20]
  repeat (first | refine CWp.seq ?_ | refine CWp.block ?_ | (refine CWp.ret ?_; try simp only [go_sem, Nat.reduceAdd, Nat.reduceLeDiff, Nat.reduceMul, Nat.reduceSub, Nat.reduceEqDiff]) | (refine CWp.skip ?_; try simp only [go_sem, Nat.reduceAdd, Nat.reduceLeDiff, Nat.reduceMul, Nat.reduceSub, Nat.reduceEqDiff]) | (refine CWp.reg tt_ok ?_; simp only [go_sem, Nat.reduceAdd, Nat.reduceLeDiff, Nat.reduceMul, Nat.reduceSub, Nat.reduceEqDiff]))
  refine COps.pure has36 rfl rfl (by simp) (fun _ => fixedT_eq ▸ fields_spec fixedT (by decide) (by decide)) (evalC_sound tt_ok _ _ ?_)
  simp only [go_sem, Nat.reduceAdd, Nat.reduceLeDiff, Nat.reduceMul, Nat.reduceSub, Nat.reduceEqDiff]
  repeat (first | refine CWp.seq ?_ | refine CWp.block ?_ | (refine CWp.ret ?_; try simp only [go_sem, Nat.reduceAdd, Nat.reduceLeDiff, Nat.reduceMul, Nat.reduceSub, Nat.reduceEqDiff]) | (refine CWp.skip ?_; try simp only [go_sem, Nat.reduceAdd, Nat.reduceLeDiff, Nat.reduceMul, Nat.reduceSub, Nat.reduceEqDiff]) | (refine CWp.reg tt_ok ?_; simp only [go_sem, Nat.reduceAdd, Nat.reduceLeDiff, Nat.reduceMul, Nat.reduceSub, Nat.reduceEqDiff]))
  exact Fin.ret1 (.inl rfl) rfl rfl rfl (Mem.sub.refl _) ⟨rfl, rfl⟩

end Go.Proofs.LxA
set_option linter.unusedVariables false
set_option linter.unusedSimpArgs false
set_option maxRecDepth 100000
namespace Go.Proofs.LxA
open Go Go.Am Go.Proofs Go.RowKit
set_option linter.unusedSectionVars false

theorem fseq_spec (s : List UInt8) (M : Mem) : ACalls Tryd.prog 35 [.str s] M fun e M' => ∃ r, M (.b r) = none ∧ e = .ret (.fn (.func 47) [] [.ptr r 0]) ∧ M' = M.set (.b r) (.cells [.str s]) := by
  refine enter35 _ ?_
  simp only [cc35]
  repeat (first | refine CWp.seq ?_ | refine CWp.block ?_ | (refine CWp.ret ?_; try simp only [go_sem, Nat.reduceAdd, Nat.reduceLeDiff, Nat.reduceMul, Nat.reduceSub, Nat.reduceEqDiff]) | (refine CWp.skip ?_; try simp only [go_sem, Nat.reduceAdd, Nat.reduceLeDiff, Nat.reduceMul, Nat.reduceSub, Nat.reduceEqDiff]) | (refine CWp.reg tt_ok ?_; simp only [go_sem, Nat.reduceAdd, Nat.reduceLeDiff, Nat.reduceMul, Nat.reduceSub, Nat.reduceEqDiff]))
  intro r hr
  repeat (first | refine CWp.seq ?_ | refine CWp.block ?_ | (refine CWp.ret ?_; try simp only [go_sem, Nat.reduceAdd, Nat.reduceLeDiff, Nat.reduceMul, Nat.reduceSub, Nat.reduceEqDiff]) | (refine CWp.skip ?_; try simp only [go_sem, Nat.reduceAdd, Nat.reduceLeDiff, Nat.reduceMul, Nat.reduceSub, Nat.reduceEqDiff]) | (refine CWp.reg tt_ok ?_; simp only [go_sem, Nat.reduceAdd, Nat.reduceLeDiff, Nat.reduceMul, Nat.reduceSub, Nat.reduceEqDiff]))
  exact Fin.ret1 (.inl rfl) rfl rfl rfl (Mem.sub.refl _) ⟨r, hr, rfl, rfl⟩

/-- The word that has begun. -/
def curW (s : List UInt8) (i : Nat) : Option Nat → List UInt8
  | none => []
  | some a => (s.take i).drop a
def startI : Option Nat → Int
  | none => -1
  | some a => a

/-- What `strings.FieldsSeq` hands over, round for round. -/
structure FInv (l r : Nat) (s : List UInt8) (W : List (List UInt8)) (Inv : Nat → Mem → Prop) : Prop where
  cap : ∀ k M, Inv k M → M (.b r) = some (.cells [.str s])
  le : ∀ k M, Inv k M → k ≤ W.length
  step : ∀ k x M, W[k]? = some x → Inv k M → AYields Tryd.prog l [.str x] M fun e M' => e = .ret (.bool true) ∧ Inv (k + 1) M'

theorem fieldsGo_some (s : List UInt8) (i a : Nat) (hi : i < s.length) (ha : a < i) : ((s.take i).drop a).isEmpty = false := by
  cases h : (s.take i).drop a with
  | nil =>
    have := congrArg List.length h
    simp at this; omega
  | cons _ _ => rfl

theorem take_drop_succ (s : List UInt8) (i a : Nat) (hi : i < s.length) (ha : a ≤ i) : (s.take i).drop a ++ [s[i]] = (s.take (i + 1)).drop a := by
  rw [List.take_add_one, List.getElem?_eq_getElem hi, List.drop_append_of_le_length (by simp; omega)]
  rfl

theorem drop_hd {α : Type} {W : List α} {k : Nat} {x : α} {rest : List α} (h : W.drop k = x :: rest) : W[k]? = some x ∧ W.drop (k + 1) = rest := by
  have h0 : W[k]? = (W.drop k)[0]? := by simp
  rw [h0, h]
  refine ⟨rfl, ?_⟩
  have : W.drop (k + 1) = (W.drop k).drop 1 := by rw [List.drop_drop]
  rw [this, h]; rfl

theorem spI_zero (b : UInt8) : decide (spI b = 0) = !Lib.isSp b := by
  unfold spI; cases Lib.isSp b <;> rfl

theorem fit_loop (s : List UInt8) (hlen : s.length ≤ 1000000) (hs : ∀ b ∈ s, b.toNat < 128) (l r : Nat) (W : List (List UInt8)) (Inv : Nat → Mem → Prop) (F : FInv l r s W Inv) (Q : AExit → St → Prop) :
    ∀ (n i : Nat) (st : Option Nat) (k : Nat) (M : Mem), s.length - i < n → i ≤ s.length → Inv k M → (∀ a, st = some a → a < i) → W.drop k = Lib.fieldsGo (curW s i st) (s.drop i) →
    (∀ st' k' M', Inv k' M' → (∀ a, st' = some a → a < s.length) → W.drop k' = Lib.fieldsGo (curW s s.length st') [] → Q (.exit 0) { tmps := lp47_0 (.v (.fn (.yield l) [] [])) (.v (.ptr r 0)) (.v (.int .i64 (startI st'))) (.v (.int .i64 (s.length : Int))), loc := [], rows := [], defs := [], M := M' }) →
    CLoop none Tryd.prog tt esc47 cc47_l0 Q { tmps := lp47_0 (.v (.fn (.yield l) [] [])) (.v (.ptr r 0)) (.v (.int .i64 (startI st))) (.v (.int .i64 (i : Int))), loc := [], rows := [], defs := [], M := M } := by
  intro n
  induction n with
  | zero => intro i st k M h0; omega
  | succ n ih =>
    intro i st k M h0 h1 hI hst hW hQ
    have hr := F.cap k M hI
    refine CLoop.unroll ?_
    generalize hK : CLoop none Tryd.prog tt esc47 cc47_l0 Q = K
    simp only [cc47_l0, lp47_0]
    refine CWp.seq ?_
    refine CWp.seq ?_
    refine CWp.reg tt_ok ?_
    simp only [go_sem, Nat.reduceAdd, Nat.reduceLeDiff, Nat.reduceMul, Nat.reduceSub, Nat.reduceEqDiff, hr]
    refine CWp.cond rfl ?_ ?_ <;> intro hc
    · have hi : i < s.length := by simpa using hc
      have hb := hs s[i] (List.getElem_mem hi)
      have hg : s.getD i 0 = s[i] := by simp [List.getD, List.getElem?_eq_getElem hi]
      have hsp : s[i].toNat < 256 := s[i].toNat_lt
      rw [List.drop_eq_getElem_cons hi] at hW
      simp only [Lib.fieldsGo] at hW
      refine CWp.skip ?_
      simp only [go_sem, Nat.reduceAdd, Nat.reduceLeDiff, Nat.reduceMul, Nat.reduceSub, Nat.reduceEqDiff]
      refine CWp.block ?_
      refine CWp.seq ?_
      refine CWp.reg tt_ok ?_
      simp only [go_sem, Nat.reduceAdd, Nat.reduceLeDiff, Nat.reduceMul, Nat.reduceSub, Nat.reduceEqDiff]
      refine CWp.seq ?_
      refine CWp.reg tt_ok ?_
      simp only [go_sem, Nat.reduceAdd, Nat.reduceLeDiff, Nat.reduceMul, Nat.reduceSub, Nat.reduceEqDiff, hr, hg]
      repeat (with_reducible refine And.intro (by first | exact True.intro | assumption | omega | (intros; omega) | (intro hg; simp only [Bool.and_eq_true, Bool.or_eq_true, decide_eq_true_eq, Bool.not_eq_true', decide_eq_false_iff_not] at hg; omega) | (simp only [decide_eq_true_eq, Bool.and_eq_true, Bool.or_eq_true, Bool.not_eq_true', decide_eq_false_iff_not]; omega) | (intros; simp_all; done) | (intros; simp_all; omega)) ?_)
      refine CWp.seq ?_
      refine CWp.reg tt_ok ?_
      simp only [go_sem, Nat.reduceAdd, Nat.reduceLeDiff, Nat.reduceMul, Nat.reduceSub, Nat.reduceEqDiff, hr, hg, tab_at, spI_zero]
      repeat (with_reducible refine And.intro (by first | exact True.intro | assumption | omega | (intros; omega) | (intro hg; simp only [Bool.and_eq_true, Bool.or_eq_true, decide_eq_true_eq, Bool.not_eq_true', decide_eq_false_iff_not] at hg; omega) | (simp only [decide_eq_true_eq, Bool.and_eq_true, Bool.or_eq_true, Bool.not_eq_true', decide_eq_false_iff_not]; omega) | (intros; simp_all; done) | (intros; simp_all; omega)) ?_)
      refine CWp.seq ?_
      refine CWp.seq ?_
      refine CWp.reg tt_ok ?_
      simp only [go_sem, Nat.reduceAdd, Nat.reduceLeDiff, Nat.reduceMul, Nat.reduceSub, Nat.reduceEqDiff]
      refine CWp.cond rfl ?_ ?_ <;> intro hc2
      · exfalso
        simp at hc2; omega
      · refine CWp.skip ?_
        simp only [go_sem, Nat.reduceAdd, Nat.reduceLeDiff, Nat.reduceMul, Nat.reduceSub, Nat.reduceEqDiff]
        refine CWp.seq ?_
        refine CWp.seq ?_
        refine CWp.reg tt_ok ?_
        simp only [go_sem, Nat.reduceAdd, Nat.reduceLeDiff, Nat.reduceMul, Nat.reduceSub, Nat.reduceEqDiff]
        have next : ∀ (st' : Option Nat) (k' : Nat) (M' : Mem), Inv k' M' → (∀ a, st' = some a → a < i + 1) → W.drop k' = Lib.fieldsGo (curW s (i + 1) st') (s.drop (i + 1)) →
            CLoop none Tryd.prog tt esc47 cc47_l0 Q { tmps := lp47_0 (.v (.fn (.yield l) [] [])) (.v (.ptr r 0)) (.v (.int .i64 (startI st'))) (.v (.int .i64 ((i + 1 : Nat) : Int))), loc := [], rows := [], defs := [], M := M' } := by
          intro st' k' M' g1 g2 g3
          exact ih (i + 1) st' k' M' (by omega) (by omega) g1 g2 g3 hQ
        cases hb2 : Lib.isSp s[i]
        · rw [hb2] at hW
          simp only [Bool.false_eq_true, if_false] at hW
          simp only [Bool.not_false, Bool.not_true]
          refine CWp.cond rfl (fun h => by cases h) fun _ => ?_
          refine CWp.seq ?_
          refine CWp.reg tt_ok ?_
          cases st with
          | none =>
            simp only [startI]
            simp only [go_sem, Nat.reduceAdd, Nat.reduceLeDiff, Nat.reduceMul, Nat.reduceSub, Nat.reduceEqDiff]
            refine CWp.cond rfl (fun _ => ?_) (fun h => by cases h)
            repeat (first | refine CWp.seq ?_ | refine CWp.block ?_ | (refine CWp.ret ?_; try simp only [go_sem, Nat.reduceAdd, Nat.reduceLeDiff, Nat.reduceMul, Nat.reduceSub, Nat.reduceEqDiff]) | (refine CWp.skip ?_; try simp only [go_sem, Nat.reduceAdd, Nat.reduceLeDiff, Nat.reduceMul, Nat.reduceSub, Nat.reduceEqDiff]) | (refine CWp.reg tt_ok ?_; simp only [go_sem, Nat.reduceAdd, Nat.reduceLeDiff, Nat.reduceMul, Nat.reduceSub, Nat.reduceEqDiff]))
            repeat (with_reducible refine And.intro (by first | exact True.intro | assumption | omega | (intros; omega) | (intro hg; simp only [Bool.and_eq_true, Bool.or_eq_true, decide_eq_true_eq, Bool.not_eq_true', decide_eq_false_iff_not] at hg; omega) | (simp only [decide_eq_true_eq, Bool.and_eq_true, Bool.or_eq_true, Bool.not_eq_true', decide_eq_false_iff_not]; omega) | (intros; simp_all; done) | (intros; simp_all; omega)) ?_)
            rw [← hK]
            refine CLoop.junk (t := _) (next (some i) k M hI (by simp) ?_) ?_
            · rw [hW]
              congr 1
              simp only [curW, List.nil_append]
              have := take_drop_succ s i i hi (Nat.le_refl _)
              rw [← this]; simp
            · simp [Junked, lp47_0, startI]
          | some a =>
            have ha := hst a rfl
            simp only [startI]
            simp only [go_sem, Nat.reduceAdd, Nat.reduceLeDiff, Nat.reduceMul, Nat.reduceSub, Nat.reduceEqDiff]
            refine CWp.cond rfl (fun h => ?_) (fun _ => ?_)
            · exfalso
              simp at h; omega
            · refine CWp.skip ?_
              repeat (first | refine CWp.seq ?_ | refine CWp.block ?_ | (refine CWp.ret ?_; try simp only [go_sem, Nat.reduceAdd, Nat.reduceLeDiff, Nat.reduceMul, Nat.reduceSub, Nat.reduceEqDiff]) | (refine CWp.skip ?_; try simp only [go_sem, Nat.reduceAdd, Nat.reduceLeDiff, Nat.reduceMul, Nat.reduceSub, Nat.reduceEqDiff]) | (refine CWp.reg tt_ok ?_; simp only [go_sem, Nat.reduceAdd, Nat.reduceLeDiff, Nat.reduceMul, Nat.reduceSub, Nat.reduceEqDiff]))
              repeat (with_reducible refine And.intro (by first | exact True.intro | assumption | omega | (intros; omega) | (intro hg; simp only [Bool.and_eq_true, Bool.or_eq_true, decide_eq_true_eq, Bool.not_eq_true', decide_eq_false_iff_not] at hg; omega) | (simp only [decide_eq_true_eq, Bool.and_eq_true, Bool.or_eq_true, Bool.not_eq_true', decide_eq_false_iff_not]; omega) | (intros; simp_all; done) | (intros; simp_all; omega)) ?_)
              rw [← hK]
              refine CLoop.junk (t := _) (next (some a) k M hI (by intro a' e; cases e; omega) ?_) ?_
              · rw [hW]
                simp only [curW]
                rw [take_drop_succ s i a hi (by omega)]
              · simp [Junked, lp47_0, startI]
        · rw [hb2] at hW
          simp only [if_true] at hW
          simp only [Bool.not_false, Bool.not_true]
          refine CWp.cond rfl (fun _ => ?_) (fun h => by cases h)
          refine CWp.seq ?_
          refine CWp.reg tt_ok ?_
          cases st with
          | none =>
            simp only [startI]
            simp only [go_sem, Nat.reduceAdd, Nat.reduceLeDiff, Nat.reduceMul, Nat.reduceSub, Nat.reduceEqDiff]
            refine CWp.cond rfl (fun h => by cases h) (fun _ => ?_)
            refine CWp.skip ?_
            repeat (first | refine CWp.seq ?_ | refine CWp.block ?_ | (refine CWp.ret ?_; try simp only [go_sem, Nat.reduceAdd, Nat.reduceLeDiff, Nat.reduceMul, Nat.reduceSub, Nat.reduceEqDiff]) | (refine CWp.skip ?_; try simp only [go_sem, Nat.reduceAdd, Nat.reduceLeDiff, Nat.reduceMul, Nat.reduceSub, Nat.reduceEqDiff]) | (refine CWp.reg tt_ok ?_; simp only [go_sem, Nat.reduceAdd, Nat.reduceLeDiff, Nat.reduceMul, Nat.reduceSub, Nat.reduceEqDiff]))
            repeat (with_reducible refine And.intro (by first | exact True.intro | assumption | omega | (intros; omega) | (intro hg; simp only [Bool.and_eq_true, Bool.or_eq_true, decide_eq_true_eq, Bool.not_eq_true', decide_eq_false_iff_not] at hg; omega) | (simp only [decide_eq_true_eq, Bool.and_eq_true, Bool.or_eq_true, Bool.not_eq_true', decide_eq_false_iff_not]; omega) | (intros; simp_all; done) | (intros; simp_all; omega)) ?_)
            rw [← hK]
            refine CLoop.junk (t := _) (next none k M hI (by simp) ?_) ?_
            · simpa [curW] using hW
            · simp [Junked, lp47_0, startI]
          | some a =>
            have ha := hst a rfl
            have hne := fieldsGo_some s i a hi ha
            simp only [curW, hne, Bool.false_eq_true, if_false] at hW
            obtain ⟨hWk, hWr⟩ := drop_hd hW
            simp only [startI]
            simp only [go_sem, Nat.reduceAdd, Nat.reduceLeDiff, Nat.reduceMul, Nat.reduceSub, Nat.reduceEqDiff]
            refine CWp.cond rfl (fun _ => ?_) (fun h => ?_)
            · refine CWp.seq ?_
              refine CWp.seq ?_
              refine CWp.reg tt_ok ?_
              simp only [go_sem, Nat.reduceAdd, Nat.reduceLeDiff, Nat.reduceMul, Nat.reduceSub, Nat.reduceEqDiff, hr]
              repeat (with_reducible refine And.intro (by first | exact True.intro | assumption | omega | (intros; omega) | (intro hg; simp only [Bool.and_eq_true, Bool.or_eq_true, decide_eq_true_eq, Bool.not_eq_true', decide_eq_false_iff_not] at hg; omega) | (simp only [decide_eq_true_eq, Bool.and_eq_true, Bool.or_eq_true, Bool.not_eq_true', decide_eq_false_iff_not]; omega) | (intros; simp_all; done) | (intros; simp_all; omega)) ?_)
              refine COps.yield rfl rfl (by simp) ((F.step k _ M hWk hI).mono ?_)
              rintro x M' ⟨rfl, hI'⟩
              refine evalC_sound tt_ok _ _ ?_
              simp only [go_sem, Nat.reduceAdd, Nat.reduceLeDiff, Nat.reduceMul, Nat.reduceSub, Nat.reduceEqDiff]
              refine CWp.cond rfl (fun h => by cases h) fun _ => ?_
              repeat (first | refine CWp.seq ?_ | refine CWp.block ?_ | (refine CWp.ret ?_; try simp only [go_sem, Nat.reduceAdd, Nat.reduceLeDiff, Nat.reduceMul, Nat.reduceSub, Nat.reduceEqDiff]) | (refine CWp.skip ?_; try simp only [go_sem, Nat.reduceAdd, Nat.reduceLeDiff, Nat.reduceMul, Nat.reduceSub, Nat.reduceEqDiff]) | (refine CWp.reg tt_ok ?_; simp only [go_sem, Nat.reduceAdd, Nat.reduceLeDiff, Nat.reduceMul, Nat.reduceSub, Nat.reduceEqDiff]))
              repeat (with_reducible refine And.intro (by first | exact True.intro | assumption | omega | (intros; omega) | (intro hg; simp only [Bool.and_eq_true, Bool.or_eq_true, decide_eq_true_eq, Bool.not_eq_true', decide_eq_false_iff_not] at hg; omega) | (simp only [decide_eq_true_eq, Bool.and_eq_true, Bool.or_eq_true, Bool.not_eq_true', decide_eq_false_iff_not]; omega) | (intros; simp_all; done) | (intros; simp_all; omega)) ?_)
              rw [← hK]
              refine CLoop.junk (t := _) (next none (k + 1) M' hI' (by simp) ?_) ?_
              · simpa [curW] using hWr
              · simp [Junked, lp47_0, startI]
            · exfalso
              simp at h
              try omega
    · have hi : i = s.length := by simp at hc; omega
      subst hi
      refine CWp.junk (t := _) (CWp.exit (hQ st k M hI hst (by simpa using hW))) ?_
      simp [Junked, lp47_0]

theorem fit_iter (s : List UInt8) (hlen : s.length ≤ 1000000) (hs : ∀ b ∈ s, b.toNat < 128) (l r : Nat) (W : List (List UInt8)) (hW : W = Lib.fields s) (Inv : Nat → Mem → Prop) (F : FInv l r s W Inv) (M : Mem) (hI : Inv 0 M) :
    ACalls Tryd.prog 47 [.fn (.yield l) [] [], .ptr r 0] M fun e M' => e = .ret (.tup []) ∧ Inv W.length M' := by
  refine enter47 _ _ ?_
  simp only [cc47]
  repeat (first | refine CWp.seq ?_ | refine CWp.block ?_ | (refine CWp.ret ?_; try simp only [go_sem, Nat.reduceAdd, Nat.reduceLeDiff, Nat.reduceMul, Nat.reduceSub, Nat.reduceEqDiff]) | (refine CWp.skip ?_; try simp only [go_sem, Nat.reduceAdd, Nat.reduceLeDiff, Nat.reduceMul, Nat.reduceSub, Nat.reduceEqDiff]) | (refine CWp.reg tt_ok ?_; simp only [go_sem, Nat.reduceAdd, Nat.reduceLeDiff, Nat.reduceMul, Nat.reduceSub, Nat.reduceEqDiff]))
  refine CWp.loop (CLoop.junk (t := lp47_0 (.v (.fn (.yield l) [] [])) (.v (.ptr r 0)) (.v (.int .i64 (startI none))) (.v (.int .i64 ((0 : Nat) : Int)))) (fit_loop s hlen hs l r W Inv F _ (s.length + 1) 0 none 0 M (by omega) (by omega) hI (by simp) (by rw [hW]; simp [curW, Lib.fields]) ?_) (by simp [Junked, lp47_0, startI]))
  intro st k M' hI' hst hk
  have hr := F.cap k M' hI'
  simp only [lp47_0]
  simp only [go_sem, Nat.reduceAdd, Nat.reduceLeDiff, Nat.reduceMul, Nat.reduceSub, Nat.reduceEqDiff]
  refine CWp.seq ?_
  refine CWp.reg tt_ok ?_
  cases st with
  | none =>
    simp only [startI]
    simp only [go_sem, Nat.reduceAdd, Nat.reduceLeDiff, Nat.reduceMul, Nat.reduceSub, Nat.reduceEqDiff]
    refine CWp.cond rfl (fun h => by cases h) (fun _ => ?_)
    refine CWp.skip ?_
    have hk0 : W.drop k = [] := by simpa [curW, Lib.fieldsGo] using hk
    have hkl : W.length ≤ k := by simpa using hk0
    have e : k = W.length := by have := F.le k M' hI'; omega
    subst e
    exact Fin.ret0 (.inr rfl) rfl rfl (Mem.sub.refl _) ⟨rfl, hI'⟩
  | some a =>
    have ha := hst a rfl
    simp only [startI]
    simp only [go_sem, Nat.reduceAdd, Nat.reduceLeDiff, Nat.reduceMul, Nat.reduceSub, Nat.reduceEqDiff]
    refine CWp.cond rfl (fun _ => ?_) (fun h => ?_)
    · have hne : ((s.take s.length).drop a).isEmpty = false := by
        cases h : (s.take s.length).drop a with
        | nil =>
          have := congrArg List.length h
          simp at this
          try omega
        | cons _ _ => rfl
      simp only [curW, Lib.fieldsGo, hne, Bool.false_eq_true, if_false] at hk
      obtain ⟨hWk, hWr⟩ := drop_hd hk
      refine CWp.reg tt_ok ?_
      simp only [go_sem, Nat.reduceAdd, Nat.reduceLeDiff, Nat.reduceMul, Nat.reduceSub, Nat.reduceEqDiff, hr]
      repeat (with_reducible refine And.intro (by first | exact True.intro | assumption | omega | (intros; omega) | (intro hg; simp only [Bool.and_eq_true, Bool.or_eq_true, decide_eq_true_eq, Bool.not_eq_true', decide_eq_false_iff_not] at hg; omega) | (simp only [decide_eq_true_eq, Bool.and_eq_true, Bool.or_eq_true, Bool.not_eq_true', decide_eq_false_iff_not]; omega) | (intros; simp_all; done) | (intros; simp_all; omega)) ?_)
      refine COps.yield rfl rfl (by simp) ((F.step k _ M' ?_ hI').mono ?_)
      · rw [hWk]
      · rintro x M'' ⟨rfl, hI''⟩
        refine evalC_sound tt_ok _ _ ?_
        simp only [go_sem]
        have hl : k + 1 = W.length := by
          have h1 : W.length ≤ k + 1 := by simpa using hWr
          have h2 := (List.getElem?_eq_some_iff.1 hWk).1
          omega
        rw [← hl]
        exact Fin.ret0 (.inr rfl) rfl rfl (Mem.sub.refl _) ⟨rfl, hI''⟩
    · exfalso
      simp at h
      try omega
end Go.Proofs.LxA
set_option linter.unusedVariables false
set_option linter.unusedSimpArgs false
set_option maxRecDepth 100000
namespace Go.Proofs.LxA
open Go Go.Am Go.Proofs Go.RowKit
set_option linter.unusedSectionVars false

theorem FinM.one {P : Program} {st : St} {fn : Func} {R : AEnd → Mem → Prop} {x : AExit} {ds : List Nat} {p : Nat} {v : AV} {M' : Mem} (hx : x = .ret ∨ x = .normal) (hres : fn.results = #[.tmp p])
    (hds : st.defs = ds.map .mark) (hdb : defbs ds st.M) (hp : (st.tmps[p]?).getD .junk = .v v) (hM : M'.sub st.M) (hMd : ∀ d ∈ ds, M' (.b d) = none) (h : R (.ret v) M') : FinM P fn R x st := by
  have key : ∃ ds : List Nat, st.defs = ds.map .mark ∧ defbs ds st.M ∧ ∃ M1, M1.sub st.M ∧ (∀ d ∈ ds, M1 (.b d) = none) ∧ ∃ vs, ResL P fn.results.toList { st with M := M1, defs := [] } vs ∧ ∃ M', M'.sub M1 ∧ R (.ret (tupV vs)) M' := by
    let M1 : Mem := fun k => if k ∈ ds.map Key.b then none else st.M k
    refine ⟨ds, hds, hdb, M1, ?_, ?_, [v], ?_, M', ?_, h⟩
    · intro k o hk
      simp only [M1] at hk
      split at hk
      · cases hk
      · exact hk
    · intro d hd
      simp only [M1]; rw [if_pos (by simpa using hd)]
    · rw [hres]
      exact .cons _ _ _ _ _ (.tmp (show ((st.tmps[p]?).getD .junk).ext = some v by rw [hp]; rfl)) (.nil _)
    · intro k o hk
      simp only [M1]
      split
      · rename_i hin
        simp only [List.mem_map] at hin
        obtain ⟨d, hd, rfl⟩ := hin
        rw [hMd d hd] at hk; cases hk
      · exact hM k o hk
  rcases hx with rfl | rfl <;> exact key

/-- Strings as the keys of a map, all true. -/
def addT (m : List (List UInt8 × AV)) (l : List (List UInt8)) : List (List UInt8 × AV) := l.foldl (fun m x => setS m x (.bool true)) m
theorem findS_setS (s x : List UInt8) (v : AV) : ∀ m : List (List UInt8 × AV), findS (setS m x v) s = if s = x then some v else findS m s
  | [] => by simp [findS, setS, Bool.cond_eq_ite]
  | (k, w) :: m => by
    have ih := findS_setS s x v m
    simp only [setS, Bool.cond_eq_ite, decide_eq_true_eq]
    by_cases h : x = k
    · subst h
      simp only [if_true, findS, Bool.cond_eq_ite, decide_eq_true_eq]
      split <;> rfl
    · simp only [h, if_false, findS, Bool.cond_eq_ite, decide_eq_true_eq, ih]
      by_cases h1 : s = k
      · subst h1
        have : ¬ s = x := fun e => h e.symm
        simp [this]
      · simp [h1]
theorem findS_addT (s : List UInt8) : ∀ (l : List (List UInt8)) (m : List (List UInt8 × AV)), findS (addT m l) s = if s ∈ l then some (.bool true) else findS m s
  | [], m => by simp [addT]
  | x :: l, m => by
    have ih := findS_addT s l (setS m x (.bool true))
    show findS (addT (setS m x (.bool true)) l) s = _
    rw [ih, findS_setS]
    by_cases h : s ∈ l <;> by_cases h' : s = x <;> simp [h, h']
theorem addT_snoc (m : List (List UInt8 × AV)) (l : List (List UInt8)) (x : List UInt8) : setS (addT m l) x (.bool true) = addT m (l ++ [x]) := by
  simp [addT]

def kwT : List UInt8 := [102, 117, 110, 32, 108, 101, 116, 32, 105, 110, 32, 83, 105, 103, 109, 97, 32, 80, 114, 111, 112, 32, 84, 121, 112, 101, 32, 98, 121, 32, 97, 120, 105, 111, 109, 32, 100, 101, 102, 32, 116, 104, 101, 111, 114, 101, 109, 32, 105, 110, 100, 117, 99, 116, 105, 118, 101, 32, 102, 117, 110, 99, 116, 105, 111, 110, 32, 97, 110, 100, 32, 101, 110, 100, 32, 99, 108, 97, 115, 115, 32, 105, 110, 115, 116, 97, 110, 99, 101, 32, 110, 111, 116, 97, 116, 105, 111, 110, 32, 110, 97, 109, 101, 115, 112, 97, 99, 101, 32, 111, 112, 101, 110, 32, 99, 104, 101, 99, 107, 32, 101, 118, 97, 108, 32, 105, 109, 112, 111, 114, 116]
theorem kwT_eq : kwL = Lib.fields kwT := by decide +kernel
theorem kwT_lit : kwT = [102, 117, 110, 32, 108, 101, 116, 32, 105, 110, 32, 83, 105, 103, 109, 97, 32, 80, 114, 111, 112, 32, 84, 121, 112, 101, 32, 98, 121, 32, 97, 120, 105, 111, 109, 32, 100, 101, 102, 32, 116, 104, 101, 111, 114, 101, 109, 32, 105, 110, 100, 117, 99, 116, 105, 118, 101, 32, 102, 117, 110, 99, 116, 105, 111, 110, 32, 97, 110, 100, 32, 101, 110, 100, 32, 99, 108, 97, 115, 115, 32, 105, 110, 115, 116, 97, 110, 99, 101, 32, 110, 111, 116, 97, 116, 105, 111, 110, 32, 110, 97, 109, 101, 115, 112, 97, 99, 101, 32, 111, 112, 101, 110, 32, 99, 104, 101, 99, 107, 32, 101, 118, 97, 108, 32, 105, 109, 112, 111, 114, 116] := rfl

theorem keywords_spec (M : Mem) : ACalls Tryd.prog 19 [] M fun e M' => ∃ r, M (.b r) = none ∧ e = .ret (.map r) ∧ M' = M.set (.b r) (.map (addT [] kwL)) := by
  refine enter19 ?_
  simp only [cc19]
  rw [← kwT_lit]
  refine CWp.seq ?_
  refine CWp.reg tt_ok ?_
  simp only [go_sem, Nat.reduceAdd, Nat.reduceLeDiff, Nat.reduceMul, Nat.reduceSub, Nat.reduceEqDiff]
  refine CWp.seq ?_
  refine CWp.reg tt_ok ?_
  simp only [go_sem, Nat.reduceAdd, Nat.reduceLeDiff, Nat.reduceMul, Nat.reduceSub, Nat.reduceEqDiff]
  intro rm hrm r1 hr1
  obtain ⟨n1, hr1'⟩ := Mem.set_none hr1
  have n1 : r1 ≠ rm := by simpa using n1
  simp only [Mem.set_same, Mem.set_set, go_sem, List.append_nil, List.drop_succ_cons, List.drop_zero]
  repeat (with_reducible refine And.intro (by first | exact True.intro | assumption | omega | (intros; omega) | (intro hg; simp only [Bool.and_eq_true, Bool.or_eq_true, decide_eq_true_eq, Bool.not_eq_true', decide_eq_false_iff_not] at hg; omega) | (simp only [decide_eq_true_eq, Bool.and_eq_true, Bool.or_eq_true, Bool.not_eq_true', decide_eq_false_iff_not]; omega) | (intros; simp_all; done) | (intros; simp_all; omega)) ?_)
  obtain ⟨M1, hM1⟩ : ∃ M1, M1 = (M.set (.b rm) (.map [])).set (.b r1) (.cells [.map rm]) := ⟨_, rfl⟩
  rw [← hM1]
  have a1 : M1 (.b r1) = some (.cells [.map rm]) := by rw [hM1, Mem.set_same]
  have am : M1 (.b rm) = some (.map []) := by rw [hM1, Mem.set_b (Ne.symm n1), Mem.set_same]
  have as_ : M.sub M1 := by rw [hM1]; exact ((Mem.sub.refl M).set_new hrm).set_new hr1'
  clear hM1
  refine CWp.seq ?_
  refine CWp.seq ?_
  refine CWp.reg tt_ok ?_
  simp only [go_sem, Nat.reduceAdd, Nat.reduceLeDiff, Nat.reduceMul, Nat.reduceSub, Nat.reduceEqDiff]
  refine COps.call has35 rfl (by simp) ((fseq_spec kwT M1).mono ?_)
  rintro x M' ⟨rf, hrf, rfl, rfl⟩
  refine evalC_sound tt_ok _ _ ?_
  simp only [go_sem, Nat.reduceAdd, Nat.reduceLeDiff, Nat.reduceMul, Nat.reduceSub, Nat.reduceEqDiff]
  obtain ⟨M2, hM2⟩ : ∃ M2, M2 = M1.set (.b rf) (.cells [.str kwT]) := ⟨_, rfl⟩
  rw [← hM2]
  have nf : ∀ r o, M1 (.b r) = some o → r ≠ rf := by intro r o h e; subst e; rw [hrf] at h; cases h
  have k1 : M2 (.b r1) = some (.cells [.map rm]) := by rw [hM2, Mem.set_b (nf _ _ a1)]; exact a1
  have km : M2 (.b rm) = some (.map []) := by rw [hM2, Mem.set_b (nf _ _ am)]; exact am
  have kf : M2 (.b rf) = some (.cells [.str kwT]) := by rw [hM2, Mem.set_same]
  have ks : M.sub M2 := by rw [hM2]; exact as_.trans ((Mem.sub.refl M1).set_new hrf)
  have nfm : rf ≠ rm := Ne.symm (nf _ _ am)
  have nf1 : rf ≠ r1 := Ne.symm (nf _ _ a1)
  clear hM2
  refine CWp.block ?_
  refine CWp.rangeF (f := 47) (first := []) (cap := [.ptr rf 0]) rfl has47 ?_
  intro l d fn ca cb hca hcb hl hd hld
  have hl : M2 (.b l) = none := hl
  have hd : M2 (.b d) = none := hd
  have nl : ∀ r o, M2 (.b r) = some o → r ≠ l := by intro r o h e; subst e; rw [hl] at h; cases h
  have nd : ∀ r o, M2 (.b r) = some o → r ≠ d := by intro r o h e; subst e; rw [hd] at h; cases h
  have hMl : M (.b l) = none := by
    cases h : M (.b l) with
    | none => rfl
    | some o => rw [ks _ _ h] at hl; cases hl
  have hMd : M (.b d) = none := by
    cases h : M (.b d) with
    | none => rfl
    | some o => rw [ks _ _ h] at hd; cases hd
  simp only [loopM, List.map_cons, List.map_nil, TV.av]
  generalize hL0 : (LoopRec.mk LoopState.ready none fn _ _ ca cb d) = L0
  have p1 : L0.state = .ready := by rw [← hL0]
  have p2 : L0.pend = none := by rw [← hL0]
  have p3 : L0.ps = #[5] := by rw [← hL0]
  have p4 : L0.assign = ca := by rw [← hL0]
  have p5 : L0.body = cb := by rw [← hL0]
  have p6 := congrArg LoopRec.vs hL0.symm
  simp only at p6
  clear hL0
  obtain ⟨MI, hMI⟩ : ∃ MI, MI = (M2.set (.b d) .defb).set (.b l) (.loop L0) := ⟨_, rfl⟩
  have look : ∀ r o, M2 (.b r) = some o → MI (.b r) = some o := by
    intro r o h
    rw [hMI, Mem.set_b (nl r o h), Mem.set_b (nd r o h)]; exact h
  have il : MI (.b l) = some (.loop L0) := by rw [hMI, Mem.set_same]
  have id_ : MI (.b d) = some .defb := by rw [hMI, Mem.set_b (Ne.symm hld), Mem.set_same]
  have is_ : M.sub MI := by rw [hMI]; exact (ks.set_new hMd).set_new hMl
  rw [← hMI]
  clear hMI
  let Inv : Nat → Mem → Prop := fun k M' => k ≤ kwL.length ∧ M' (.b rf) = some (.cells [.str kwT]) ∧ M' (.b r1) = some (.cells [.map rm]) ∧ M' (.b rm) = some (.map (addT [] (kwL.take k))) ∧ M' (.b l) = some (.loop L0) ∧ M' (.b d) = some .defb ∧ M.sub M'
  have F : FInv l rf kwT kwL Inv := by
    refine ⟨fun k M' h => h.2.1, fun k M' h => h.1, fun k x M' hx ⟨h1, h2, h3, h4, h5, h6, h7⟩ => ?_⟩
    refine AYields.of_cc (p := cc19_a0) (q := cc19_b0) (T := tt) (esc := esc19) h5 (by rw [p3]; rfl) (by rw [p4]; exact hca) (by rw [p5]; exact hcb) ?_
    simp only [p3, p6, roundT, avT, List.map_cons, List.map_nil, List.set_cons_succ, List.set_cons_zero]
    simp only [cc19_a0]
    refine CWp.reg tt_ok ?_
    simp only [go_sem, Nat.reduceAdd, Nat.reduceLeDiff, Nat.reduceMul, Nat.reduceSub, Nat.reduceEqDiff]
    refine ⟨L0, h5, p1, ?_⟩
    generalize hLB : ({ L0 with state := .busy } : LoopRec) = LB
    have nlm : rm ≠ l := nl _ _ km
    have b1 : ∀ o, (M'.set (.b l) o) (.b r1) = some (.cells [.map rm]) := fun o => by rw [Mem.set_b (nl _ _ k1)]; exact h3
    have bm : ∀ o, (M'.set (.b l) o) (.b rm) = some (.map (addT [] (kwL.take k))) := fun o => by rw [Mem.set_b nlm]; exact h4
    simp only [cc19_b0]
    refine CWp.block ?_
    refine CWp.reg tt_ok ?_
    simp only [go_sem, Nat.reduceAdd, Nat.reduceLeDiff, Nat.reduceMul, Nat.reduceSub, Nat.reduceEqDiff, b1, bm]
    repeat (with_reducible refine And.intro (by first | exact True.intro | assumption | omega | (intros; omega) | (intro hg; simp only [Bool.and_eq_true, Bool.or_eq_true, decide_eq_true_eq, Bool.not_eq_true', decide_eq_false_iff_not] at hg; omega) | (simp only [decide_eq_true_eq, Bool.and_eq_true, Bool.or_eq_true, Bool.not_eq_true', decide_eq_false_iff_not]; omega) | (intros; simp_all; done) | (intros; simp_all; omega)) ?_)
    refine ⟨LB, ?_, (M'.set (.b l) (.loop L0)).set (.b rm) (.map (addT [] (kwL.take (k + 1)))), ?_, rfl, ?_, ?_, ?_, ?_, ?_, ?_, ?_⟩
    · show ((M'.set _ _).set _ _) (.b l) = _
      rw [Mem.set_b (Ne.symm nlm), Mem.set_same]
    · have hLL : ({ LB with state := .ready, pend := none } : LoopRec) = L0 := by rw [← hLB, ← p1, ← p2]
      have htk : setS (addT [] (kwL.take k)) x (.bool true) = addT [] (kwL.take (k + 1)) := by
        rw [addT_snoc, List.take_add_one, hx]; rfl
      rw [hLL]
      show ((M'.set _ _).set _ _).sub (((M'.set _ _).set _ _).set _ _)
      rw [htk, Mem.set_comm _ _ _ _ _ (by simpa using Ne.symm nlm : (Key.b l) ≠ .b rm), Mem.set_comm (M'.set _ _) _ _ _ _ (by simpa using nlm : (Key.b rm) ≠ .b l), Mem.set_set, Mem.set_comm _ _ _ _ _ (by simpa using nlm : (Key.b rm) ≠ .b l)]
      exact Mem.sub.refl _
    · have := (List.getElem?_eq_some_iff.1 hx).1; omega
    · rw [Mem.set_b nfm, Mem.set_b (nl _ _ kf)]; exact h2
    · rw [Mem.set_b n1, Mem.set_b (nl _ _ k1)]; exact h3
    · rw [Mem.set_same]
    · rw [Mem.set_b (Ne.symm nlm), Mem.set_same]
    · rw [Mem.set_b (Ne.symm (nd _ _ km)), Mem.set_b (Ne.symm hld)]; exact h6
    · exact (h7.set_new hMl).set_new hrm
  have hI0 : Inv 0 MI := ⟨Nat.zero_le _, look _ _ kf, look _ _ k1, look _ _ km, il, id_, is_⟩
  refine (fit_iter kwT (by decide) (by decide) l rf kwL kwT_eq Inv F MI hI0).mono ?_
  rintro e M' ⟨rfl, h1, h2, h3, h4, h5, h6, h7⟩
  refine ⟨L0, h5, by rw [p1]; simp, ?_⟩
  rw [p2]
  simp only [jumpA]
  have e1 : (M'.set (.b l) .dead) (.b r1) = some (.cells [.map rm]) := by rw [Mem.set_b (nl _ _ k1)]; exact h3
  simp only [go_sem, Nat.reduceAdd, Nat.reduceLeDiff, Nat.reduceMul, Nat.reduceSub, Nat.reduceEqDiff]
  refine CWp.seq ?_
  refine CWp.reg tt_ok ?_
  simp only [go_sem, Nat.reduceAdd, Nat.reduceLeDiff, Nat.reduceMul, Nat.reduceSub, Nat.reduceEqDiff, e1]
  refine CWp.ret ?_
  rw [List.take_length] at h4
  refine FinM.one (ds := [d]) (.inl rfl) rfl rfl ⟨?_, True.intro⟩ rfl ?_ ?_ ⟨rm, hrm, rfl, rfl⟩
  · show (M'.set _ _) _ = _
    rw [Mem.set_b (Ne.symm hld)]; exact h6
  · intro k o hk
    show (M'.set _ _) k = some o
    by_cases e : k = .b rm
    · subst e
      rw [Mem.set_same] at hk
      rw [Mem.set_b (nl _ _ km), h4]; exact hk
    · rw [Mem.set_other _ _ _ _ e] at hk
      have : k ≠ .b l := by intro e; subst e; rw [hMl] at hk; cases hk
      rw [Mem.set_other _ _ _ _ this]
      exact h7 _ _ hk
  · intro d' hd'
    simp only [List.mem_singleton] at hd'
    subst hd'
    rw [Mem.set_b (Ne.symm (nd _ _ km))]; exact hMd
end Go.Proofs.LxA
set_option linter.unusedVariables false
set_option linter.unusedSimpArgs false
set_option maxRecDepth 100000
namespace Go.Proofs.LxA
open Go Go.Am Go.Proofs Go.RowKit
set_option linter.unusedSectionVars false

theorem keywordP_spec (s : List UInt8) : Pure Tryd.prog 15 [.str s] (.bool (decide (s ∈ kwL))) := fun M => by
  refine enter15 _ ?_
  simp only [cc15]
  repeat (first | refine CWp.seq ?_ | refine CWp.block ?_ | (refine CWp.ret ?_; try simp only [go_sem, Nat.reduceAdd, Nat.reduceLeDiff, Nat.reduceMul, Nat.reduceSub, Nat.reduceEqDiff]) | (refine CWp.skip ?_; try simp only [go_sem, Nat.reduceAdd, Nat.reduceLeDiff, Nat.reduceMul, Nat.reduceSub, Nat.reduceEqDiff]) | (refine CWp.reg tt_ok ?_; simp only [go_sem, Nat.reduceAdd, Nat.reduceLeDiff, Nat.reduceMul, Nat.reduceSub, Nat.reduceEqDiff]))
  refine COps.call has19 rfl (by simp) ((keywords_spec M).mono ?_)
  rintro x M' ⟨r, hr, rfl, rfl⟩
  refine evalC_sound tt_ok _ _ ?_
  simp only [go_sem, Nat.reduceAdd, Nat.reduceLeDiff, Nat.reduceMul, Nat.reduceSub, Nat.reduceEqDiff, Mem.set_same]
  refine CWp.ret ?_
  refine Fin.ret1 (.inl rfl) rfl rfl rfl ((Mem.sub.refl M).set_new hr) ⟨?_, rfl⟩
  rw [findS_addT]
  by_cases h : s ∈ kwL <;> simp [h, findS]

theorem signB_contains (c : UInt8) : decide (0 ≤ Lib.indexByte signL c) = signB (c.toNat : Int) := by
  rw [← Lib.contains_iff_indexByte]
  unfold signB
  have : ∀ l : List UInt8, l.contains c = l.any fun b => decide ((b.toNat : Int) = (c.toNat : Int)) := by
    intro l
    induction l with
    | nil => rfl
    | cons b l ih =>
      rw [List.contains_cons, List.any_cons, ih]
      congr 1
      by_cases h : c = b
      · subst h; simp
      · have : ¬ (b.toNat : Int) = (c.toNat : Int) := by
          intro e
          apply h
          apply UInt8.toNat_inj.1
          omega
        simp [h, this]
  exact this _

theorem has30' : Has Tryd.prog 30 := ⟨_, Tryd.func30, by kernel_rfl, by decide⟩
theorem contains1_spec (c : UInt8) : Pure Tryd.prog 30 [.str signL, .str [c]] (.bool (signB (c.toNat : Int))) := by
  refine Pure.of_lib fun B E MM w cargs hs hargs => ?_
  obtain ⟨c1, c2, hc, h1, h2⟩ := hargs.two_inv
  cases cargs_two hc
  generalize hsg : signL = sg at h1
  generalize hsc : [c] = sc at h2
  cases h1 with
  | str s0 =>
    cases h2 with
    | str s1 =>
      have e1 : s1 = ⟨#[c]⟩ := by
        have : s1.data = #[c] := by apply Array.ext'; rw [← hsc]
        cases s1; simp only at this; rw [this]
      subst e1
      refine (Tryd.strings_Contains_one s0 c w).mono ?_
      rintro e w' ⟨rfl, rfl⟩
      rw [← hsg, signB_contains]
      exact ⟨_, rfl, .bool _, Below.refl _ _⟩

theorem num_now {B : Nat} {E : Env} {M : Mem} {w : World} (hs : Sim B E M w) : ∃ m, w.cell? ⟨2, 0, none⟩ = some (.int .i64 m) := by
  obtain ⟨G, nr, hs0⟩ := hs
  obtain ⟨m, hm⟩ := hs0.ok.1.1
  have hlt := cell_lt hm
  rw [hs0.ok.2] at hlt
  exact ⟨m, by rw [World.cell?_of_block (w := E.base) (hs0.old 2 hlt)]; exact hm⟩

theorem bytes_eq {s1 : ByteArray} {l : List UInt8} (h : l = s1.data.toList) : s1 = ⟨l.toArray⟩ := by
  have : s1.data = l.toArray := by apply Array.ext'; simp [h]
  cases s1; simp only at this; rw [this]

theorem containsD_spec (s : List UInt8) (hlen : s.length ≤ 1000000000) : Pure Tryd.prog 30 [.str s, .str [45, 45]] (.bool (Lib.contains s [45, 45])) := by
  refine Pure.of_lib fun B E MM w cargs hs hargs => ?_
  obtain ⟨c1, c2, hc, h1, h2⟩ := hargs.two_inv
  cases cargs_two hc
  obtain ⟨m, hm⟩ := num_now hs
  generalize hsc : ([45, 45] : List UInt8) = sc at h2
  cases h1 with
  | str s0 =>
    cases h2 with
    | str s1 =>
      have hsz : s0.size ≤ 1000000000 := by
        have : s0.size = s0.data.toList.length := by simp
        omega
      refine (Tryd.strings_Contains s0 s1 m w (by omega) hm).mono ?_
      rintro e w' ⟨rfl, rfl⟩
      exact ⟨_, rfl, .bool _, Below.refl _ _⟩

def badRun (p : Nat → Bool) (len : Nat) : Nat → Nat → Bool
  | 0, _ => false
  | n + 1, i => bif decide (i < len) then p i || badRun p len n (i + 1) else false
theorem badRun_false (p : Nat → Bool) (len : Nat) : ∀ (n i : Nat), len - i < n → (badRun p len n i = false ↔ ∀ j, i ≤ j → j < len → p j = false)
  | 0, i, h => by omega
  | n + 1, i, h => by
    simp only [badRun]
    by_cases hi : i < len
    · have ih := badRun_false p len n (i + 1) (by omega)
      simp only [hi, decide_true, cond_true, Bool.or_eq_false_iff, ih]
      constructor
      · rintro ⟨h1, h2⟩ j hj hl
        rcases Nat.eq_or_lt_of_le hj with rfl | hj
        · exact h1
        · exact h2 j hj hl
      · intro h1
        exact ⟨h1 i (Nat.le_refl _) hi, fun j hj hl => h1 j (by omega) hl⟩
    · simp only [hi, decide_false, cond_false, true_iff]
      intro j hj hl; omega
theorem badFrom_run (s : List UInt8) : ∀ n i, badFrom s n i = badRun (badAt s) s.length n i
  | 0, i => rfl
  | n + 1, i => by simp only [badFrom, badRun, badFrom_run s n]
theorem compEnd_all (s : List UInt8) : ∀ (n i : Nat), s.length - i < n → i ≤ s.length → (compEnd s n i = s.length ↔ ∀ j, i ≤ j → j < s.length → isComp (byteI s j) = true)
  | 0, i, h, _ => by omega
  | n + 1, i, h, hl => by
    simp only [compEnd]
    split
    · rename_i hc
      rw [compEnd_all s n (i + 1) (by omega) (by omega)]
      constructor
      · intro h1 j hj hlt
        rcases Nat.eq_or_lt_of_le hj with rfl | hj
        · exact hc.2
        · exact h1 j hj hlt
      · intro h1 j hj hlt
        exact h1 j (by omega) hlt
    · rename_i hc
      constructor
      · intro e j hj hlt; omega
      · intro h1
        by_cases e : i < s.length
        · exact absurd ⟨e, h1 i (Nat.le_refl _) e⟩ hc
        · omega
theorem occ_dash (s : List UInt8) (j : Nat) : Lib.occAt s [45, 45] j = decide (s[j]? = some 45 ∧ s[j + 1]? = some 45) := by
  unfold Lib.occAt
  have h0 : s[j]? = (s.drop j)[0]? := by simp
  have h1 : s[j + 1]? = (s.drop j)[1]? := by simp
  rw [h0, h1]
  generalize s.drop j = l
  rcases l with _ | ⟨a, _ | ⟨b, l⟩⟩
  · rfl
  · simp [List.isPrefixOf]
  · simp only [List.isPrefixOf, List.getElem?_cons_zero, List.getElem?_cons_succ, Option.some.injEq, Bool.and_true]
    rw [Bool.eq_iff_iff]
    simp only [Bool.and_eq_true, beq_iff_eq, decide_eq_true_eq]
    constructor
    · rintro ⟨h, h'⟩; exact ⟨h.symm, h'.symm⟩
    · rintro ⟨h, h'⟩; exact ⟨h.symm, h'.symm⟩
theorem contains_dash (s : List UInt8) : Lib.contains s [45, 45] = true ↔ ∃ j : Nat, s[j]? = some 45 ∧ s[j + 1]? = some 45 := by
  unfold Lib.contains
  rcases Lib.index_spec s [45, 45] with ⟨h1, h2⟩ | ⟨i, h1, h2, h3, _⟩
  · rw [h1]
    simp only [show ¬ ((0 : Int) ≤ -1) by omega, decide_false, Bool.false_eq_true, false_iff]
    rintro ⟨j, hj⟩
    have hl := (List.getElem?_eq_some_iff.1 hj.1).1
    have := h2 j (by omega)
    rw [occ_dash] at this
    simp [hj] at this
  · rw [h1]
    rw [occ_dash] at h3
    simp only [decide_eq_true_eq] at h3
    simp only [show (0 : Int) ≤ (i : Int) by omega, decide_true, true_iff]
    exact ⟨i, h3⟩
theorem byteI_eq (s : List UInt8) (i : Nat) (hi : i < s.length) (c : UInt8) : (byteI s i = (c.toNat : Int)) ↔ s[i]? = some c := by
  unfold byteI
  rw [List.getElem?_eq_getElem hi]
  have : s.getD i 0 = s[i] := by simp [List.getD, List.getElem?_eq_getElem hi]
  rw [this]
  constructor
  · intro h
    have : s[i] = c := by apply UInt8.toNat_inj.1; omega
    rw [this]
  · intro h
    cases h; rfl
theorem badAt_split (s : List UInt8) : badFrom s (s.length + 1) 0 = (badRun (fun i => !signB (byteI s i)) s.length (s.length + 1) 0 || Lib.contains s [45, 45]) := by
  rw [badFrom_run, Bool.eq_iff_iff]
  simp only [Bool.or_eq_true]
  rw [← Bool.not_eq_false, badRun_false _ _ _ _ (by omega), ← Bool.not_eq_false, badRun_false _ _ _ _ (by omega), contains_dash]
  constructor
  · intro h
    by_cases h1 : ∀ j, 0 ≤ j → j < s.length → (!signB (byteI s j)) = false
    · right
      have ⟨j, hj⟩ := Classical.not_forall.1 h
      have hj' : j < s.length ∧ ¬ badAt s j = false := by
        by_cases hl : j < s.length
        · exact ⟨hl, fun e => hj fun _ _ => e⟩
        · exact absurd (fun _ hl' => absurd hl' hl) hj
      obtain ⟨hl, hb⟩ := hj'
      unfold badAt at hb
      rw [h1 j (Nat.zero_le _) hl] at hb
      simp only [Bool.false_or, Bool.not_eq_false, Bool.and_eq_true, decide_eq_true_eq] at hb
      obtain ⟨⟨h0, h2⟩, h3⟩ := hb
      refine ⟨j - 1, (byteI_eq s (j - 1) (by omega) 45).1 h3, ?_⟩
      rw [show j - 1 + 1 = j by omega]
      exact (byteI_eq s j hl 45).1 h2
    · exact .inl h1
  · rintro (h | ⟨j, h1, h2⟩) h'
    · refine h fun j hj hl => ?_
      have := h' j hj hl
      unfold badAt at this
      exact (Bool.or_eq_false_iff.1 this).1
    · have hl := (List.getElem?_eq_some_iff.1 h2).1
      have := h' (j + 1) (Nat.zero_le _) hl
      unfold badAt at this
      have k := (Bool.or_eq_false_iff.1 this).2
      rw [(decide_eq_true ((byteI_eq s (j + 1) hl 45).2 h2) : decide (byteI s (j + 1) = 45) = true), show j + 1 - 1 = j by omega, (decide_eq_true ((byteI_eq s j (by omega) 45).2 h1) : decide (byteI s j = 45) = true)] at k
      simp at k


theorem word_loop (s : List UInt8) (hlen : s.length ≤ 1000000000) (M : Mem) (Q : AExit → St → Prop) : ∀ (n i : Nat), s.length - i < n → i ≤ s.length →
    (badRun (fun i => !inWordB (byteI s i)) s.length n i = true → ∀ t, t[2]? = some (.v (.bool false)) → Q .ret { tmps := t, loc := [], rows := [], defs := [], M := M }) →
    (badRun (fun i => !inWordB (byteI s i)) s.length n i = false → Q (.exit 0) { tmps := lp17_0 (.v (.str s)) (.v (.int .i64 (s.length : Int))) (.v (.int .i64 (s.length : Int))), loc := [], rows := [], defs := [], M := M }) →
    CLoop none Tryd.prog tt esc17 cc17_l0 Q { tmps := lp17_0 (.v (.str s)) (.v (.int .i64 (s.length : Int))) (.v (.int .i64 (i : Int))), loc := [], rows := [], defs := [], M := M } := by
  intro n
  induction n with
  | zero => intro i h0 h1 hQ1 hQ2; omega
  | succ n ih =>
    intro i h0 h1 hQ1 hQ2
    refine CLoop.unroll ?_
    generalize hK : CLoop none Tryd.prog tt esc17 cc17_l0 Q = K
    simp only [cc17_l0, lp17_0]
    repeat (first | refine CWp.seq ?_ | refine CWp.block ?_ | (refine CWp.ret ?_; try simp only [go_sem, Nat.reduceAdd, Nat.reduceLeDiff, Nat.reduceMul, Nat.reduceSub, Nat.reduceEqDiff]) | (refine CWp.skip ?_; try simp only [go_sem, Nat.reduceAdd, Nat.reduceLeDiff, Nat.reduceMul, Nat.reduceSub, Nat.reduceEqDiff]) | (refine CWp.reg tt_ok ?_; simp only [go_sem, Nat.reduceAdd, Nat.reduceLeDiff, Nat.reduceMul, Nat.reduceSub, Nat.reduceEqDiff]))
    refine CWp.cond rfl ?_ ?_ <;> intro hc
    · have hi : i < s.length := by simpa using hc
      simp only [badRun, hi, decide_true, cond_true] at hQ1 hQ2
      refine CWp.skip ?_
      simp only [go_sem, Nat.reduceAdd, Nat.reduceLeDiff, Nat.reduceMul, Nat.reduceSub, Nat.reduceEqDiff]
      repeat (first | refine CWp.seq ?_ | refine CWp.block ?_ | (refine CWp.ret ?_; try simp only [go_sem, Nat.reduceAdd, Nat.reduceLeDiff, Nat.reduceMul, Nat.reduceSub, Nat.reduceEqDiff]) | (refine CWp.skip ?_; try simp only [go_sem, Nat.reduceAdd, Nat.reduceLeDiff, Nat.reduceMul, Nat.reduceSub, Nat.reduceEqDiff]) | (refine CWp.reg tt_ok ?_; simp only [go_sem, Nat.reduceAdd, Nat.reduceLeDiff, Nat.reduceMul, Nat.reduceSub, Nat.reduceEqDiff]))
      repeat (with_reducible refine And.intro (by first | exact True.intro | assumption | omega | (intros; omega) | (intro hg; simp only [Bool.and_eq_true, Bool.or_eq_true, decide_eq_true_eq, Bool.not_eq_true', decide_eq_false_iff_not] at hg; omega) | (simp only [decide_eq_true_eq, Bool.and_eq_true, Bool.or_eq_true, Bool.not_eq_true', decide_eq_false_iff_not]; omega) | (intros; simp_all; done) | (intros; simp_all; omega)) ?_)
      refine COps.pure has29 rfl rfl (by simp) (fun _ => inWord_spec _) (evalC_sound tt_ok _ _ ?_)
      simp only [go_sem, Nat.reduceAdd, Nat.reduceLeDiff, Nat.reduceMul, Nat.reduceSub, Nat.reduceEqDiff]
      have hb : (((s.getD i 0).toNat : Nat) : Int) = byteI s i := rfl
      simp only [hb]
      refine CWp.cond rfl ?_ ?_ <;> intro hc2
      · repeat (first | refine CWp.seq ?_ | refine CWp.block ?_ | (refine CWp.ret ?_; try simp only [go_sem, Nat.reduceAdd, Nat.reduceLeDiff, Nat.reduceMul, Nat.reduceSub, Nat.reduceEqDiff]) | (refine CWp.skip ?_; try simp only [go_sem, Nat.reduceAdd, Nat.reduceLeDiff, Nat.reduceMul, Nat.reduceSub, Nat.reduceEqDiff]) | (refine CWp.reg tt_ok ?_; simp only [go_sem, Nat.reduceAdd, Nat.reduceLeDiff, Nat.reduceMul, Nat.reduceSub, Nat.reduceEqDiff]))
        exact hQ1 (by rw [hc2]; rfl) _ rfl
      · rw [hc2] at hQ1 hQ2
        simp only [Bool.false_or] at hQ1 hQ2
        repeat (first | refine CWp.seq ?_ | refine CWp.block ?_ | (refine CWp.ret ?_; try simp only [go_sem, Nat.reduceAdd, Nat.reduceLeDiff, Nat.reduceMul, Nat.reduceSub, Nat.reduceEqDiff]) | (refine CWp.skip ?_; try simp only [go_sem, Nat.reduceAdd, Nat.reduceLeDiff, Nat.reduceMul, Nat.reduceSub, Nat.reduceEqDiff]) | (refine CWp.reg tt_ok ?_; simp only [go_sem, Nat.reduceAdd, Nat.reduceLeDiff, Nat.reduceMul, Nat.reduceSub, Nat.reduceEqDiff]))
        repeat (with_reducible refine And.intro (by first | exact True.intro | assumption | omega | (intros; omega) | (intro hg; simp only [Bool.and_eq_true, Bool.or_eq_true, decide_eq_true_eq, Bool.not_eq_true', decide_eq_false_iff_not] at hg; omega) | (simp only [decide_eq_true_eq, Bool.and_eq_true, Bool.or_eq_true, Bool.not_eq_true', decide_eq_false_iff_not]; omega) | (intros; simp_all; done) | (intros; simp_all; omega)) ?_)
        rw [← hK]
        exact CLoop.junk (t := lp17_0 (.v (.str s)) (.v (.int .i64 (s.length : Int))) (.v (.int .i64 ((i + 1 : Nat) : Int)))) (ih (i + 1) (by omega) (by omega) hQ1 hQ2) (by simp [Junked, lp17_0])
    · have hi : i = s.length := by simp at hc; omega
      subst hi
      simp only [badRun, Nat.lt_irrefl, decide_false, cond_false] at hQ2
      exact CWp.junk (t := lp17_0 (.v (.str s)) (.v (.int .i64 (s.length : Int))) (.v (.int .i64 (s.length : Int)))) (CWp.exit (hQ2 True.intro)) (by simp [Junked, lp17_0])

theorem cut_one (s : List UInt8) (i : Nat) (hi : i < s.length) : (s.take (i + 1)).drop i = [s.getD i 0] := by
  rw [List.take_add_one, List.getElem?_eq_getElem hi, List.drop_append_of_le_length (by simp; omega)]
  simp [List.getD, List.getElem?_eq_getElem hi]

theorem sgn_loop (s : List UInt8) (hlen : s.length ≤ 1000000000) (M : Mem) (Q : AExit → St → Prop) : ∀ (n i : Nat), s.length - i < n → i ≤ s.length →
    (badRun (fun i => !signB (byteI s i)) s.length n i = true → ∀ t, t[2]? = some (.v (.bool false)) → Q .ret { tmps := t, loc := [], rows := [], defs := [], M := M }) →
    (badRun (fun i => !signB (byteI s i)) s.length n i = false → Q (.exit 2) { tmps := lp17_1 (.v (.str s)) (.v (.int .i64 (s.length : Int))) (.v (.int .i64 (s.length : Int))), loc := [], rows := [], defs := [], M := M }) →
    CLoop none Tryd.prog tt esc17 cc17_l1 Q { tmps := lp17_1 (.v (.str s)) (.v (.int .i64 (s.length : Int))) (.v (.int .i64 (i : Int))), loc := [], rows := [], defs := [], M := M } := by
  intro n
  induction n with
  | zero => intro i h0 h1 hQ1 hQ2; omega
  | succ n ih =>
    intro i h0 h1 hQ1 hQ2
    refine CLoop.unroll ?_
    generalize hK : CLoop none Tryd.prog tt esc17 cc17_l1 Q = K
    simp only [cc17_l1, lp17_1]
    repeat (first | refine CWp.seq ?_ | refine CWp.block ?_ | (refine CWp.ret ?_; try simp only [go_sem, Nat.reduceAdd, Nat.reduceLeDiff, Nat.reduceMul, Nat.reduceSub, Nat.reduceEqDiff]) | (refine CWp.skip ?_; try simp only [go_sem, Nat.reduceAdd, Nat.reduceLeDiff, Nat.reduceMul, Nat.reduceSub, Nat.reduceEqDiff]) | (refine CWp.reg tt_ok ?_; simp only [go_sem, Nat.reduceAdd, Nat.reduceLeDiff, Nat.reduceMul, Nat.reduceSub, Nat.reduceEqDiff]))
    refine CWp.cond rfl ?_ ?_ <;> intro hc
    · have hi : i < s.length := by simpa using hc
      simp only [badRun, hi, decide_true, cond_true] at hQ1 hQ2
      refine CWp.skip ?_
      simp only [go_sem, Nat.reduceAdd, Nat.reduceLeDiff, Nat.reduceMul, Nat.reduceSub, Nat.reduceEqDiff]
      repeat (first | refine CWp.seq ?_ | refine CWp.block ?_ | (refine CWp.ret ?_; try simp only [go_sem, Nat.reduceAdd, Nat.reduceLeDiff, Nat.reduceMul, Nat.reduceSub, Nat.reduceEqDiff]) | (refine CWp.skip ?_; try simp only [go_sem, Nat.reduceAdd, Nat.reduceLeDiff, Nat.reduceMul, Nat.reduceSub, Nat.reduceEqDiff]) | (refine CWp.reg tt_ok ?_; simp only [go_sem, Nat.reduceAdd, Nat.reduceLeDiff, Nat.reduceMul, Nat.reduceSub, Nat.reduceEqDiff]))
      repeat (with_reducible refine And.intro (by first | exact True.intro | assumption | omega | (intros; omega) | (intro hg; simp only [Bool.and_eq_true, Bool.or_eq_true, decide_eq_true_eq, Bool.not_eq_true', decide_eq_false_iff_not] at hg; omega) | (simp only [decide_eq_true_eq, Bool.and_eq_true, Bool.or_eq_true, Bool.not_eq_true', decide_eq_false_iff_not]; omega) | (intros; simp_all; done) | (intros; simp_all; omega)) ?_)
      have e1 : ((i : Int) + 1).toNat = i + 1 := by omega
      have e2 : (((i + 1 : Nat) : Int)).toNat = i + 1 := by omega
      simp only [e1, e2, cut_one s i hi]
      refine COps.pure has30' rfl rfl (by simp) (fun _ => contains1_spec _) (evalC_sound tt_ok _ _ ?_)
      simp only [go_sem, Nat.reduceAdd, Nat.reduceLeDiff, Nat.reduceMul, Nat.reduceSub, Nat.reduceEqDiff]
      have hb : (((s.getD i 0).toNat : Nat) : Int) = byteI s i := rfl
      simp only [hb]
      refine CWp.cond rfl ?_ ?_ <;> intro hc2
      · repeat (first | refine CWp.seq ?_ | refine CWp.block ?_ | (refine CWp.ret ?_; try simp only [go_sem, Nat.reduceAdd, Nat.reduceLeDiff, Nat.reduceMul, Nat.reduceSub, Nat.reduceEqDiff]) | (refine CWp.skip ?_; try simp only [go_sem, Nat.reduceAdd, Nat.reduceLeDiff, Nat.reduceMul, Nat.reduceSub, Nat.reduceEqDiff]) | (refine CWp.reg tt_ok ?_; simp only [go_sem, Nat.reduceAdd, Nat.reduceLeDiff, Nat.reduceMul, Nat.reduceSub, Nat.reduceEqDiff]))
        exact hQ1 (by rw [hc2]; rfl) _ rfl
      · rw [hc2] at hQ1 hQ2
        simp only [Bool.false_or] at hQ1 hQ2
        repeat (first | refine CWp.seq ?_ | refine CWp.block ?_ | (refine CWp.ret ?_; try simp only [go_sem, Nat.reduceAdd, Nat.reduceLeDiff, Nat.reduceMul, Nat.reduceSub, Nat.reduceEqDiff]) | (refine CWp.skip ?_; try simp only [go_sem, Nat.reduceAdd, Nat.reduceLeDiff, Nat.reduceMul, Nat.reduceSub, Nat.reduceEqDiff]) | (refine CWp.reg tt_ok ?_; simp only [go_sem, Nat.reduceAdd, Nat.reduceLeDiff, Nat.reduceMul, Nat.reduceSub, Nat.reduceEqDiff]))
        repeat (with_reducible refine And.intro (by first | exact True.intro | assumption | omega | (intros; omega) | (intro hg; simp only [Bool.and_eq_true, Bool.or_eq_true, decide_eq_true_eq, Bool.not_eq_true', decide_eq_false_iff_not] at hg; omega) | (simp only [decide_eq_true_eq, Bool.and_eq_true, Bool.or_eq_true, Bool.not_eq_true', decide_eq_false_iff_not]; omega) | (intros; simp_all; done) | (intros; simp_all; omega)) ?_)
        rw [← hK]
        exact CLoop.junk (t := lp17_1 (.v (.str s)) (.v (.int .i64 (s.length : Int))) (.v (.int .i64 ((i + 1 : Nat) : Int)))) (ih (i + 1) (by omega) (by omega) hQ1 hQ2) (by simp [Junked, lp17_1])
    · have hi : i = s.length := by simp at hc; omega
      subst hi
      simp only [badRun, Nat.lt_irrefl, decide_false, cond_false] at hQ2
      exact CWp.junk (t := lp17_1 (.v (.str s)) (.v (.int .i64 (s.length : Int))) (.v (.int .i64 (s.length : Int)))) (CWp.exit (hQ2 True.intro)) (by simp [Junked, lp17_1])

theorem fixP_loop (l : List (List UInt8)) (s : List UInt8) (hlen : l.length ≤ 1000000) (M : Mem) (Q : AExit → St → Prop) : ∀ (n i : Nat), l.length - i < n → i ≤ l.length →
    (s ∈ l.drop i → ∀ t, t[2]? = some (.v (.bool (decide (s = [43])))) → Q .ret { tmps := t, loc := [], rows := [], defs := [], M := M }) →
    (s ∉ l.drop i → Q (.exit 4) { tmps := lp17_2 (.v (.str s)) (.v (.sl .full 1 (strs l))) (.v (.int .i64 (l.length : Int))) (.v (.int .i64 (l.length : Int))), loc := [], rows := [], defs := [], M := M }) →
    CLoop none Tryd.prog tt esc17 cc17_l2 Q { tmps := lp17_2 (.v (.str s)) (.v (.sl .full 1 (strs l))) (.v (.int .i64 (l.length : Int))) (.v (.int .i64 (i : Int))), loc := [], rows := [], defs := [], M := M } := by
  intro n
  induction n with
  | zero => intro i h0 h1 hQ1 hQ2; omega
  | succ n ih =>
    intro i h0 h1 hQ1 hQ2
    refine CLoop.unroll ?_
    generalize hK : CLoop none Tryd.prog tt esc17 cc17_l2 Q = K
    simp only [cc17_l2, lp17_2]
    repeat (first | refine CWp.seq ?_ | refine CWp.block ?_ | (refine CWp.ret ?_; try simp only [go_sem, Nat.reduceAdd, Nat.reduceLeDiff, Nat.reduceMul, Nat.reduceSub, Nat.reduceEqDiff]) | (refine CWp.skip ?_; try simp only [go_sem, Nat.reduceAdd, Nat.reduceLeDiff, Nat.reduceMul, Nat.reduceSub, Nat.reduceEqDiff]) | (refine CWp.reg tt_ok ?_; simp only [go_sem, Nat.reduceAdd, Nat.reduceLeDiff, Nat.reduceMul, Nat.reduceSub, Nat.reduceEqDiff]))
    refine CWp.cond rfl ?_ ?_ <;> intro hc
    · have hi : i < l.length := by simpa using hc
      have hxx := strs_at l i l[i] (List.getElem?_eq_getElem hi)
      have hdd := List.drop_eq_getElem_cons hi
      refine CWp.skip ?_
      simp only [go_sem, Nat.reduceAdd, Nat.reduceLeDiff, Nat.reduceMul, Nat.reduceSub, Nat.reduceEqDiff]
      refine CWp.seq ?_
      refine CWp.block ?_
      refine CWp.seq ?_
      refine CWp.reg tt_ok ?_
      simp only [go_sem, Nat.reduceAdd, Nat.reduceLeDiff, Nat.reduceMul, Nat.reduceSub, Nat.reduceEqDiff, hxx, strs_len]
      repeat (with_reducible refine And.intro (by first | exact True.intro | assumption | omega | (intros; omega) | (intro hg; simp only [Bool.and_eq_true, Bool.or_eq_true, decide_eq_true_eq, Bool.not_eq_true', decide_eq_false_iff_not] at hg; omega) | (simp only [decide_eq_true_eq, Bool.and_eq_true, Bool.or_eq_true, Bool.not_eq_true', decide_eq_false_iff_not]; omega) | (intros; simp_all; done) | (intros; simp_all; omega)) ?_)
      refine CWp.seq ?_
      refine CWp.reg tt_ok ?_
      simp only [go_sem, Nat.reduceAdd, Nat.reduceLeDiff, Nat.reduceMul, Nat.reduceSub, Nat.reduceEqDiff]
      refine CWp.cond rfl ?_ ?_ <;> intro hc2
      · repeat (first | refine CWp.seq ?_ | refine CWp.block ?_ | (refine CWp.ret ?_; try simp only [go_sem, Nat.reduceAdd, Nat.reduceLeDiff, Nat.reduceMul, Nat.reduceSub, Nat.reduceEqDiff]) | (refine CWp.skip ?_; try simp only [go_sem, Nat.reduceAdd, Nat.reduceLeDiff, Nat.reduceMul, Nat.reduceSub, Nat.reduceEqDiff]) | (refine CWp.reg tt_ok ?_; simp only [go_sem, Nat.reduceAdd, Nat.reduceLeDiff, Nat.reduceMul, Nat.reduceSub, Nat.reduceEqDiff]))
        exact hQ1 (by rw [hdd]; simp at hc2; rw [hc2]; exact List.mem_cons_self) _ rfl
      · repeat (first | refine CWp.seq ?_ | refine CWp.block ?_ | (refine CWp.ret ?_; try simp only [go_sem, Nat.reduceAdd, Nat.reduceLeDiff, Nat.reduceMul, Nat.reduceSub, Nat.reduceEqDiff]) | (refine CWp.skip ?_; try simp only [go_sem, Nat.reduceAdd, Nat.reduceLeDiff, Nat.reduceMul, Nat.reduceSub, Nat.reduceEqDiff]) | (refine CWp.reg tt_ok ?_; simp only [go_sem, Nat.reduceAdd, Nat.reduceLeDiff, Nat.reduceMul, Nat.reduceSub, Nat.reduceEqDiff]))
        repeat (with_reducible refine And.intro (by first | exact True.intro | assumption | omega | (intros; omega) | (intro hg; simp only [Bool.and_eq_true, Bool.or_eq_true, decide_eq_true_eq, Bool.not_eq_true', decide_eq_false_iff_not] at hg; omega) | (simp only [decide_eq_true_eq, Bool.and_eq_true, Bool.or_eq_true, Bool.not_eq_true', decide_eq_false_iff_not]; omega) | (intros; simp_all; done) | (intros; simp_all; omega)) ?_)
        rw [← hK]
        have hne : ¬ l[i] = s := by simpa using hc2
        refine CLoop.junk (t := lp17_2 (.v (.str s)) (.v (.sl .full 1 (strs l))) (.v (.int .i64 (l.length : Int))) (.v (.int .i64 ((i + 1 : Nat) : Int)))) (ih (i + 1) (by omega) (by omega) ?_ ?_) (by simp [Junked, lp17_2])
        · intro hm; exact hQ1 (by rw [hdd]; exact List.mem_cons_of_mem _ hm)
        · intro hm
          refine hQ2 ?_
          rw [hdd]
          exact fun h => (List.mem_cons.1 h).elim (fun e => hne e.symm) hm
    · have hi : i = l.length := by simp at hc; omega
      refine CWp.junk (t := lp17_2 (.v (.str s)) (.v (.sl .full 1 (strs l))) (.v (.int .i64 (l.length : Int))) (.v (.int .i64 (l.length : Int)))) (CWp.exit (hQ2 ?_)) (by simp [Junked, lp17_2, hi])
      rw [hi]; simp
end Go.Proofs.LxA
set_option linter.unusedVariables false
set_option linter.unusedSimpArgs false
set_option maxRecDepth 100000
namespace Go.Proofs.LxA
open Go Go.Am Go.Proofs Go.RowKit
set_option linter.unusedSectionVars false

theorem classI_one (c : Int) : decide (classI c = 1) = beginsB c := by
  unfold classI
  cases h : beginsB c with
  | true => rfl
  | false =>
    cases h2 : digitB c with
    | true => rfl
    | false => cases h3 : decide (c = 34) <;> rfl
theorem fixedL_any (s : List UInt8) : (fixedL.any fun f => decide (f = s) && !decide (s = [43])) = (decide (s ∈ fixedL) && !decide (s = [43])) := by
  rw [Bool.eq_iff_iff]
  simp only [List.any_eq_true, Bool.and_eq_true, decide_eq_true_eq]
  constructor
  · rintro ⟨f, hf, rfl, h⟩; exact ⟨hf, h⟩
  · rintro ⟨h1, h2⟩; exact ⟨s, h1, rfl, h2⟩

theorem symbolP_spec (s : List UInt8) (hlen : s.length ≤ 1000000000) : Pure Tryd.prog 17 [.str s] (.bool (symM s)) := fun M => by
  refine enter17 _ ?_
  simp only [cc17]
  repeat (first | refine CWp.seq ?_ | refine CWp.block ?_ | (refine CWp.ret ?_; try simp only [go_sem, Nat.reduceAdd, Nat.reduceLeDiff, Nat.reduceMul, Nat.reduceSub, Nat.reduceEqDiff]) | (refine CWp.skip ?_; try simp only [go_sem, Nat.reduceAdd, Nat.reduceLeDiff, Nat.reduceMul, Nat.reduceSub, Nat.reduceEqDiff]) | (refine CWp.reg tt_ok ?_; simp only [go_sem, Nat.reduceAdd, Nat.reduceLeDiff, Nat.reduceMul, Nat.reduceSub, Nat.reduceEqDiff]))
  refine CWp.cond rfl ?_ ?_ <;> intro h1
  · repeat (first | refine CWp.seq ?_ | refine CWp.block ?_ | (refine CWp.ret ?_; try simp only [go_sem, Nat.reduceAdd, Nat.reduceLeDiff, Nat.reduceMul, Nat.reduceSub, Nat.reduceEqDiff]) | (refine CWp.skip ?_; try simp only [go_sem, Nat.reduceAdd, Nat.reduceLeDiff, Nat.reduceMul, Nat.reduceSub, Nat.reduceEqDiff]) | (refine CWp.reg tt_ok ?_; simp only [go_sem, Nat.reduceAdd, Nat.reduceLeDiff, Nat.reduceMul, Nat.reduceSub, Nat.reduceEqDiff]))
    have e : symM s = false := by simp only [symM, h1, cond_true]
    exact Fin.ret1 (.inl rfl) Tryd.results17 rfl rfl (Mem.sub.refl _) ⟨by rw [e], rfl⟩
  · have hpos : 0 < s.length := by
      cases s with
      | nil => simp at h1
      | cons a b => simp
    repeat (first | refine CWp.seq ?_ | refine CWp.block ?_ | (refine CWp.ret ?_; try simp only [go_sem, Nat.reduceAdd, Nat.reduceLeDiff, Nat.reduceMul, Nat.reduceSub, Nat.reduceEqDiff]) | (refine CWp.skip ?_; try simp only [go_sem, Nat.reduceAdd, Nat.reduceLeDiff, Nat.reduceMul, Nat.reduceSub, Nat.reduceEqDiff]) | (refine CWp.reg tt_ok ?_; simp only [go_sem, Nat.reduceAdd, Nat.reduceLeDiff, Nat.reduceMul, Nat.reduceSub, Nat.reduceEqDiff]))
    repeat (with_reducible refine And.intro (by first | exact True.intro | assumption | omega | (intros; omega) | (intro hg; simp only [Bool.and_eq_true, Bool.or_eq_true, decide_eq_true_eq, Bool.not_eq_true', decide_eq_false_iff_not] at hg; omega) | (simp only [decide_eq_true_eq, Bool.and_eq_true, Bool.or_eq_true, Bool.not_eq_true', decide_eq_false_iff_not]; omega) | (intros; simp_all; done) | (intros; simp_all; omega)) ?_)
    have hb : (((s.getD (0 : Int).toNat 0).toNat : Nat) : Int) = byteI s 0 := rfl
    simp only [hb]
    refine COps.pure has26 rfl rfl (by simp) (fun _ => class_spec _) (evalC_sound tt_ok _ _ ?_)
    simp only [go_sem, Nat.reduceAdd, Nat.reduceLeDiff, Nat.reduceMul, Nat.reduceSub, Nat.reduceEqDiff, classI_one]
    refine CWp.cond rfl ?_ ?_ <;> intro h2
    · repeat (first | refine CWp.seq ?_ | refine CWp.block ?_ | (refine CWp.ret ?_; try simp only [go_sem, Nat.reduceAdd, Nat.reduceLeDiff, Nat.reduceMul, Nat.reduceSub, Nat.reduceEqDiff]) | (refine CWp.skip ?_; try simp only [go_sem, Nat.reduceAdd, Nat.reduceLeDiff, Nat.reduceMul, Nat.reduceSub, Nat.reduceEqDiff]) | (refine CWp.reg tt_ok ?_; simp only [go_sem, Nat.reduceAdd, Nat.reduceLeDiff, Nat.reduceMul, Nat.reduceSub, Nat.reduceEqDiff]))
      refine CWp.loop (CLoop.junk (t := lp17_0 (.v (.str s)) (.v (.int .i64 (s.length : Int))) (.v (.int .i64 ((0 : Nat) : Int)))) (word_loop s hlen M _ (s.length + 1) 0 (by omega) (by omega) ?_ ?_) (by simp [Junked, lp17_0]))
      · intro h3 t ht
        simp only [go_sem, Nat.reduceAdd, Nat.reduceLeDiff, Nat.reduceMul, Nat.reduceSub, Nat.reduceEqDiff]
        have e : symM s = false := by
          simp only [symM, h1, h2, cond_true, cond_false]
          have : ¬ compEnd s (s.length + 1) 0 = s.length := by
            rw [compEnd_all s _ 0 (by omega) (by omega)]
            intro h
            have : badRun (fun i => !inWordB (byteI s i)) s.length (s.length + 1) 0 = false := (badRun_false _ _ _ _ (by omega)).2 fun j hj hl => by
              have := h j hj hl
              simp only [isComp] at this
              simp only [inWordB, this, Bool.not_true]
            rw [this] at h3; cases h3
          simp [this]
        exact Fin.ret1 (.inl rfl) Tryd.results17 rfl (by rw [ht]; rfl) (Mem.sub.refl _) ⟨by rw [e], rfl⟩
      · intro h3
        simp only [go_sem, lp17_0]
        repeat (first | refine CWp.seq ?_ | refine CWp.block ?_ | (refine CWp.ret ?_; try simp only [go_sem, Nat.reduceAdd, Nat.reduceLeDiff, Nat.reduceMul, Nat.reduceSub, Nat.reduceEqDiff]) | (refine CWp.skip ?_; try simp only [go_sem, Nat.reduceAdd, Nat.reduceLeDiff, Nat.reduceMul, Nat.reduceSub, Nat.reduceEqDiff]) | (refine CWp.reg tt_ok ?_; simp only [go_sem, Nat.reduceAdd, Nat.reduceLeDiff, Nat.reduceMul, Nat.reduceSub, Nat.reduceEqDiff]))
        refine COps.pure has15 rfl rfl (by simp) (fun _ => keywordP_spec s) (evalC_sound tt_ok _ _ ?_)
        simp only [go_sem, Nat.reduceAdd, Nat.reduceLeDiff, Nat.reduceMul, Nat.reduceSub, Nat.reduceEqDiff]
        repeat (with_reducible refine And.intro (by first | exact True.intro | assumption | omega | (intros; omega) | (intro hg; simp only [Bool.and_eq_true, Bool.or_eq_true, decide_eq_true_eq, Bool.not_eq_true', decide_eq_false_iff_not] at hg; omega) | (simp only [decide_eq_true_eq, Bool.and_eq_true, Bool.or_eq_true, Bool.not_eq_true', decide_eq_false_iff_not]; omega) | (intros; simp_all; done) | (intros; simp_all; omega)) ?_)
        repeat (first | refine CWp.seq ?_ | refine CWp.block ?_ | (refine CWp.ret ?_; try simp only [go_sem, Nat.reduceAdd, Nat.reduceLeDiff, Nat.reduceMul, Nat.reduceSub, Nat.reduceEqDiff]) | (refine CWp.skip ?_; try simp only [go_sem, Nat.reduceAdd, Nat.reduceLeDiff, Nat.reduceMul, Nat.reduceSub, Nat.reduceEqDiff]) | (refine CWp.reg tt_ok ?_; simp only [go_sem, Nat.reduceAdd, Nat.reduceLeDiff, Nat.reduceMul, Nat.reduceSub, Nat.reduceEqDiff]))
        have e : symM s = (!decide (s = [95]) && !decide (s ∈ kwL)) := by
          simp only [symM, h1, h2, cond_true, cond_false]
          have : compEnd s (s.length + 1) 0 = s.length := by
            rw [compEnd_all s _ 0 (by omega) (by omega)]
            intro j hj hl
            have := (badRun_false _ _ _ _ (by omega)).1 h3 j hj hl
            simp only [Bool.not_eq_false'] at this
            exact this
          rw [decide_eq_true this, Bool.true_and]
        exact Fin.ret1 (.inl rfl) Tryd.results17 rfl rfl (Mem.sub.refl _) ⟨by rw [e], rfl⟩
    · repeat (first | refine CWp.seq ?_ | refine CWp.block ?_ | (refine CWp.ret ?_; try simp only [go_sem, Nat.reduceAdd, Nat.reduceLeDiff, Nat.reduceMul, Nat.reduceSub, Nat.reduceEqDiff]) | (refine CWp.skip ?_; try simp only [go_sem, Nat.reduceAdd, Nat.reduceLeDiff, Nat.reduceMul, Nat.reduceSub, Nat.reduceEqDiff]) | (refine CWp.reg tt_ok ?_; simp only [go_sem, Nat.reduceAdd, Nat.reduceLeDiff, Nat.reduceMul, Nat.reduceSub, Nat.reduceEqDiff]))
      refine CWp.loop (CLoop.junk (t := lp17_1 (.v (.str s)) (.v (.int .i64 (s.length : Int))) (.v (.int .i64 ((0 : Nat) : Int)))) (sgn_loop s hlen M _ (s.length + 1) 0 (by omega) (by omega) ?_ ?_) (by simp [Junked, lp17_1]))
      · intro h3 t ht
        simp only [go_sem, Nat.reduceAdd, Nat.reduceLeDiff, Nat.reduceMul, Nat.reduceSub, Nat.reduceEqDiff]
        have e : symM s = false := by simp only [symM, h1, h2, badAt_split, h3, Bool.true_or, cond_true, cond_false]
        exact Fin.ret1 (.inl rfl) Tryd.results17 rfl (by rw [ht]; rfl) (Mem.sub.refl _) ⟨by rw [e], rfl⟩
      · intro h3
        simp only [go_sem, lp17_1]
        repeat (first | refine CWp.seq ?_ | refine CWp.block ?_ | (refine CWp.ret ?_; try simp only [go_sem, Nat.reduceAdd, Nat.reduceLeDiff, Nat.reduceMul, Nat.reduceSub, Nat.reduceEqDiff]) | (refine CWp.skip ?_; try simp only [go_sem, Nat.reduceAdd, Nat.reduceLeDiff, Nat.reduceMul, Nat.reduceSub, Nat.reduceEqDiff]) | (refine CWp.reg tt_ok ?_; simp only [go_sem, Nat.reduceAdd, Nat.reduceLeDiff, Nat.reduceMul, Nat.reduceSub, Nat.reduceEqDiff]))
        refine COps.pure has30' rfl rfl (by simp) (fun _ => containsD_spec s hlen) (evalC_sound tt_ok _ _ ?_)
        simp only [go_sem, Nat.reduceAdd, Nat.reduceLeDiff, Nat.reduceMul, Nat.reduceSub, Nat.reduceEqDiff]
        repeat (with_reducible refine And.intro (by first | exact True.intro | assumption | omega | (intros; omega) | (intro hg; simp only [Bool.and_eq_true, Bool.or_eq_true, decide_eq_true_eq, Bool.not_eq_true', decide_eq_false_iff_not] at hg; omega) | (simp only [decide_eq_true_eq, Bool.and_eq_true, Bool.or_eq_true, Bool.not_eq_true', decide_eq_false_iff_not]; omega) | (intros; simp_all; done) | (intros; simp_all; omega)) ?_)
        refine CWp.cond rfl ?_ ?_ <;> intro h4
        · repeat (first | refine CWp.seq ?_ | refine CWp.block ?_ | (refine CWp.ret ?_; try simp only [go_sem, Nat.reduceAdd, Nat.reduceLeDiff, Nat.reduceMul, Nat.reduceSub, Nat.reduceEqDiff]) | (refine CWp.skip ?_; try simp only [go_sem, Nat.reduceAdd, Nat.reduceLeDiff, Nat.reduceMul, Nat.reduceSub, Nat.reduceEqDiff]) | (refine CWp.reg tt_ok ?_; simp only [go_sem, Nat.reduceAdd, Nat.reduceLeDiff, Nat.reduceMul, Nat.reduceSub, Nat.reduceEqDiff]))
          have e : symM s = false := by
            simp only [symM, h1, h2, badAt_split, h3, Bool.false_or, cond_false]
            cases h5 : Lib.contains s [45, 45] with
            | true => rfl
            | false =>
              rw [h5] at h4
              have : 8 < s.length := by
                simp at h4; omega
              simp only [cond_false]
              cases fixedL.any (fun f => decide (f = s) && !decide (s = [43])) with
              | true => rfl
              | false => simp only [cond_false]; exact decide_eq_false (by omega)
          exact Fin.ret1 (.inl rfl) Tryd.results17 rfl rfl (Mem.sub.refl _) ⟨by rw [e], rfl⟩
        · have h8 : s.length ≤ 8 ∧ Lib.contains s [45, 45] = false := by
            cases h5 : Lib.contains s [45, 45] with
            | true => exfalso; rw [h5] at h4; simp at h4
            | false => rw [h5] at h4; simp at h4; exact ⟨by omega, rfl⟩
          repeat (first | refine CWp.seq ?_ | refine CWp.block ?_ | (refine CWp.ret ?_; try simp only [go_sem, Nat.reduceAdd, Nat.reduceLeDiff, Nat.reduceMul, Nat.reduceSub, Nat.reduceEqDiff]) | (refine CWp.skip ?_; try simp only [go_sem, Nat.reduceAdd, Nat.reduceLeDiff, Nat.reduceMul, Nat.reduceSub, Nat.reduceEqDiff]) | (refine CWp.reg tt_ok ?_; simp only [go_sem, Nat.reduceAdd, Nat.reduceLeDiff, Nat.reduceMul, Nat.reduceSub, Nat.reduceEqDiff]))
          refine COps.pure has20 rfl rfl (by simp) (fun _ => fixedP_spec) (evalC_sound tt_ok _ _ ?_)
          simp only [go_sem, Nat.reduceAdd, Nat.reduceLeDiff, Nat.reduceMul, Nat.reduceSub, Nat.reduceEqDiff, strs_len]
          refine CWp.block ?_
          refine CWp.loop (CLoop.junk (t := lp17_2 (.v (.str s)) (.v (.sl .full 1 (strs fixedL))) (.v (.int .i64 (fixedL.length : Int))) (.v (.int .i64 ((0 : Nat) : Int)))) (fixP_loop fixedL s (by decide) M _ (fixedL.length + 1) 0 (by omega) (by omega) ?_ ?_) (by simp [Junked, lp17_2]))
          · intro h6 t ht
            simp only [go_sem, Nat.reduceAdd, Nat.reduceLeDiff, Nat.reduceMul, Nat.reduceSub, Nat.reduceEqDiff]
            rw [List.drop_zero] at h6
            have e : symM s = decide (s = [43]) := by
              simp only [symM, h1, h2, badAt_split, h3, h8.2, Bool.false_or, cond_false, fixedL_any, decide_eq_true h6, Bool.true_and]
              cases decide (s = [43]) with
              | true => simp only [Bool.not_true, cond_false]; exact decide_eq_true h8.1
              | false => rfl
            exact Fin.ret1 (.inl rfl) Tryd.results17 rfl (by rw [ht]; rfl) (Mem.sub.refl _) ⟨by rw [e], rfl⟩
          · intro h6
            rw [List.drop_zero] at h6
            simp only [go_sem, lp17_2]
            repeat (first | refine CWp.seq ?_ | refine CWp.block ?_ | (refine CWp.ret ?_; try simp only [go_sem, Nat.reduceAdd, Nat.reduceLeDiff, Nat.reduceMul, Nat.reduceSub, Nat.reduceEqDiff]) | (refine CWp.skip ?_; try simp only [go_sem, Nat.reduceAdd, Nat.reduceLeDiff, Nat.reduceMul, Nat.reduceSub, Nat.reduceEqDiff]) | (refine CWp.reg tt_ok ?_; simp only [go_sem, Nat.reduceAdd, Nat.reduceLeDiff, Nat.reduceMul, Nat.reduceSub, Nat.reduceEqDiff]))
            have e : symM s = true := by
              simp only [symM, h1, h2, badAt_split, h3, h8.2, Bool.false_or, cond_false, fixedL_any, decide_eq_false h6, Bool.false_and]
              exact decide_eq_true h8.1
            exact Fin.ret1 (.inl rfl) Tryd.results17 rfl rfl (Mem.sub.refl _) ⟨by rw [e], rfl⟩
end Go.Proofs.LxA
