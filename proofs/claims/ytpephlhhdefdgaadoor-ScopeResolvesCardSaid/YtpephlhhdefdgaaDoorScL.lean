import Derived.Test.YtpephlhhdefdgaaDoorScK
set_option linter.unusedVariables false
set_option linter.unusedSimpArgs false
set_option maxRecDepth 100000
namespace Go.Proofs.ScA
open Go Go.Am Go.Proofs Go.RowKit
set_option linter.unusedSectionVars false

theorem ends_mem : ∀ (p : List (List UInt8)) (i : Nat), i < p.length → Lib.join (p.drop i) [46] ∈ ends p := fun p i hi => List.mem_of_getElem? (ends_at p i hi)

theorem shortest_spec (s : SA) (hs : s.fine) (nm : List UInt8) (hnm : nm.length ≤ 1000) : Pure Tryd.prog 8 [stA s, .str nm] (resA (shortestM s nm)) := fun M => by
  refine enter8 _ _ ?_
  simp only [cc8]
  refine CWp.seq ?_
  refine CWp.reg tt_ok ?_
  simp only [go_sem, Nat.reduceAdd, Nat.reduceLeDiff, Nat.reduceMul, Nat.reduceSub, Nat.reduceEqDiff, stA, stC]
  intro r2 h2 r3 h3 r4 h4 r5 h5
  obtain ⟨n32, h3⟩ := Mem.set_none h3
  obtain ⟨n43, h4⟩ := Mem.set_none h4
  obtain ⟨n42, h4⟩ := Mem.set_none h4
  obtain ⟨n54, h5⟩ := Mem.set_none h5
  obtain ⟨n53, h5⟩ := Mem.set_none h5
  obtain ⟨n52, h5⟩ := Mem.set_none h5
  simp only [ne_eq, Key.b.injEq] at n32 n43 n42 n54 n53 n52
  obtain ⟨M1, hM1⟩ : ∃ M1, M1 = (((M.set (.b r2) (.cells (stC s))).set (.b r3) (.cells [.str nm])).set (.b r4) (.cells [.str []])).set (.b r5) (.cells [.int .i64 0]) := ⟨_, rfl⟩
  have g2 : M1 (.b r2) = some (.cells (stC s)) := by rw [hM1, Mem.set_b (Ne.symm n52), Mem.set_b (Ne.symm n42), Mem.set_b (Ne.symm n32), Mem.set_same]
  have g3 : M1 (.b r3) = some (.cells [.str nm]) := by rw [hM1, Mem.set_b (Ne.symm n53), Mem.set_b (Ne.symm n43), Mem.set_same]
  have g4 : M1 (.b r4) = some (.cells [.str []]) := by rw [hM1, Mem.set_b (Ne.symm n54), Mem.set_same]
  have g5 : M1 (.b r5) = some (.cells [.int .i64 0]) := by rw [hM1, Mem.set_same]
  have gs : M.sub M1 := by
    rw [hM1]
    exact ((((Mem.sub.refl M).set_new h2).set_new h3).set_new h4).set_new h5
  simp only [stC] at hM1
  rw [← hM1]
  clear hM1
  have fin : ∀ (t : List TV) (Mx : Mem) (ds : List Nat) (x : List UInt8) (e : Nat) (ex : AExit), (ex = .ret ∨ ex = .normal) → t[4]? = some (.v (.ptr r4 0)) → t[5]? = some (.v (.ptr r5 0)) → Mx (.b r4) = some (.cells [.str x]) → Mx (.b r5) = some (.cells [.int .i64 (e : Int)]) →
      defbs ds Mx → r4 ∉ ds → r5 ∉ ds → M.sub Mx → (∀ d ∈ ds, M (.b d) = none) → shortestM s nm = (x, e) →
      FinM Tryd.prog Tryd.f8 (fun e' M' => e' = .ret (resA (shortestM s nm)) ∧ M' = M) ex { tmps := t, loc := [], rows := [], defs := ds.map .mark, M := Mx } := by
    intro t Mx ds x e ex hex ht4 ht5 hm4 hm5 hdb hn4 hn5 hsub hdn hres
    refine FinM.two hex Tryd.results8 tok9 tok30 rfl hdb (by rw [ht4]; rfl) (by rw [ht5]; rfl) hm4 hm5 (v := .str x) (v' := .int .i64 (e : Int)) rfl rfl hn4 hn5 hsub hdn ⟨?_, rfl⟩
    rw [hres]; rfl
  refine CWp.seq ?_
  refine CWp.seq ?_
  refine CWp.reg tt_ok ?_
  simp only [go_sem, Nat.reduceAdd, Nat.reduceLeDiff, Nat.reduceMul, Nat.reduceSub, Nat.reduceEqDiff, g2, g3, stC]
  have hd := declared_spec s hs.1 nm (by omega)
  simp only [stA, stC] at hd
  refine COps.pure has10 rfl rfl (by simp) (fun _ => hd) (evalC_sound tt_ok _ _ ?_)
  simp only [go_sem, Nat.reduceAdd, Nat.reduceLeDiff, Nat.reduceMul, Nat.reduceSub, Nat.reduceEqDiff]
  refine CWp.cond rfl ?_ ?_ <;> intro h0
  · refine CWp.seq ?_
    refine CWp.reg tt_ok ?_
    simp only [go_sem, Nat.reduceAdd, Nat.reduceLeDiff, Nat.reduceMul, Nat.reduceSub, Nat.reduceEqDiff, g4, g5, Mem.set_b n54]
    refine CWp.ret ?_
    refine fin _ _ [] [] 9 _ (.inl rfl) rfl rfl ?_ (Mem.set_same _ _ _) True.intro (by simp) (by simp) ?_ (by simp) (by simp only [shortestM, h0, cond_true])
    · rw [Mem.set_b (Ne.symm n54), Mem.set_same]
    · exact (gs.set_new h4).set_new h5
  · refine CWp.skip ?_
    simp only [go_sem, Nat.reduceAdd, Nat.reduceLeDiff, Nat.reduceMul, Nat.reduceSub, Nat.reduceEqDiff]
    refine CWp.seq ?_
    refine CWp.seq ?_
    refine CWp.reg tt_ok ?_
    simp only [go_sem, Nat.reduceAdd, Nat.reduceLeDiff, Nat.reduceMul, Nat.reduceSub, Nat.reduceEqDiff, g3]
    refine COps.pure has25 rfl rfl (by simp) (fun _ => split_spec nm (by omega)) (evalC_sound tt_ok _ _ ?_)
    simp only [go_sem, Nat.reduceAdd, Nat.reduceLeDiff, Nat.reduceMul, Nat.reduceSub, Nat.reduceEqDiff]
    refine CWp.block ?_
    refine CWp.rangeF (f := 26) (first := [.sl .full 1 (strs (splitD nm))]) (cap := []) rfl has26 ?_
    intro l d fn ca cb hca hcb hl hd hld
    have hl : M1 (.b l) = none := hl
    have hd : M1 (.b d) = none := hd
    have nl : ∀ r o, M1 (.b r) = some o → r ≠ l := by intro r o h e; subst e; rw [hl] at h; cases h
    have nd : ∀ r o, M1 (.b r) = some o → r ≠ d := by intro r o h e; subst e; rw [hd] at h; cases h
    have hMl : M (.b l) = none := by
      cases h : M (.b l) with
      | none => rfl
      | some o => rw [gs _ _ h] at hl; cases hl
    have hMd : M (.b d) = none := by
      cases h : M (.b d) with
      | none => rfl
      | some o => rw [gs _ _ h] at hd; cases hd
    simp only [loopM, List.map_cons, List.map_nil, TV.av]
    generalize hL0 : (LoopRec.mk LoopState.ready none fn _ _ ca cb d) = L0
    have p1 : L0.state = .ready := by rw [← hL0]
    have p2 : L0.pend = none := by rw [← hL0]
    have p3 : L0.ps = #[16] := by rw [← hL0]
    have p4 : L0.assign = ca := by rw [← hL0]
    have p5 : L0.body = cb := by rw [← hL0]
    have p6 := congrArg LoopRec.vs hL0.symm
    simp only at p6
    clear hL0
    obtain ⟨MI, hMI⟩ : ∃ MI, MI = (M1.set (.b d) .defb).set (.b l) (.loop L0) := ⟨_, rfl⟩
    have look : ∀ r o, M1 (.b r) = some o → MI (.b r) = some o := by
      intro r o h
      rw [hMI, Mem.set_b (nl r o h), Mem.set_b (nd r o h)]; exact h
    have il : MI (.b l) = some (.loop L0) := by rw [hMI, Mem.set_same]
    have id_ : MI (.b d) = some .defb := by rw [hMI, Mem.set_b (Ne.symm hld), Mem.set_same]
    have is_ : M.sub MI := by rw [hMI]; exact (gs.set_new hMd).set_new hMl
    rw [← hMI]
    clear hMI
    have b2 : ∀ o, (MI.set (.b l) o) (.b r2) = some (.cells (stC s)) := fun o => by rw [Mem.set_b (nl _ _ g2)]; exact look _ _ g2
    have b3 : ∀ o, (MI.set (.b l) o) (.b r3) = some (.cells [.str nm]) := fun o => by rw [Mem.set_b (nl _ _ g3)]; exact look _ _ g3
    have b4 : ∀ o, (MI.set (.b l) o) (.b r4) = some (.cells [.str []]) := fun o => by rw [Mem.set_b (nl _ _ g4)]; exact look _ _ g4
    have b5 : ∀ o, (MI.set (.b l) o) (.b r5) = some (.cells [.int .i64 0]) := fun o => by rw [Mem.set_b (nl _ _ g5)]; exact look _ _ g5
    have bd : ∀ o, (MI.set (.b l) o) (.b d) = some .defb := fun o => by rw [Mem.set_b (Ne.symm hld)]; exact id_
    have bs : ∀ o, M.sub (MI.set (.b l) o) := fun o => is_.set_new hMl
    have hsl := splitD_len nm
    have hjl : ∀ i, (Lib.join ((splitD nm).drop i) [46]).length ≤ 1000 := by
      intro i
      rcases Nat.lt_or_ge i (splitD nm).length with hi | hi
      · exact Nat.le_trans (ends_short nm _ (ends_mem _ i hi)) hnm
      · rw [List.drop_eq_nil_of_le hi]; simp [Lib.join_nil]
    refine (ends_iter .full (splitD nm) (by omega) (fun i => Nat.le_trans (hjl i) (by omega)) (hitS s nm) l MI (fun x M' => (∃ L, M' (.b l) = some (.loop L) ∧ L.state = .done ∧ L.pend = some .ret) ∧ M' (.b r4) = some (.cells [.str x]) ∧ M' (.b r5) = some (.cells [.int .i64 0]) ∧ M' (.b d) = some .defb ∧ M.sub M') ?_).mono ?_
    · intro i hi
      have hx := hjl i
      generalize Lib.join ((splitD nm).drop i) [46] = x at *
      refine AYields.of_cc (p := cc8_a0) (q := cc8_b0) (T := tt) (esc := esc8) il (by rw [p3]; rfl) (by rw [p4]; exact hca) (by rw [p5]; exact hcb) ?_
      simp only [p3, p6, roundT, avT, List.map_cons, List.map_nil, List.set_cons_succ, List.set_cons_zero]
      simp only [cc8_a0]
      refine CWp.reg tt_ok ?_
      simp only [go_sem, Nat.reduceAdd, Nat.reduceLeDiff, Nat.reduceMul, Nat.reduceSub, Nat.reduceEqDiff]
      refine ⟨L0, il, p1, ?_⟩
      generalize hLB : ({ L0 with state := .busy } : LoopRec) = LB
      simp only [cc8_b0]
      refine CWp.block ?_
      refine CWp.seq ?_
      refine CWp.reg tt_ok ?_
      simp only [go_sem, Nat.reduceAdd, Nat.reduceLeDiff, Nat.reduceMul, Nat.reduceSub, Nat.reduceEqDiff, b2, stC]
      have hr := resolve_spec s hs x hx
      simp only [stA, stC] at hr
      refine COps.pure has6 rfl rfl (by simp) (fun _ => hr) (evalC_sound tt_ok _ _ ?_)
      simp only [resA]
      simp only [go_sem, Nat.reduceAdd, Nat.reduceLeDiff, Nat.reduceMul, Nat.reduceSub, Nat.reduceEqDiff]
      refine CWp.seq ?_
      refine CWp.reg tt_ok ?_
      simp only [go_sem, Nat.reduceAdd, Nat.reduceLeDiff, Nat.reduceMul, Nat.reduceSub, Nat.reduceEqDiff, b3]
      try repeat (with_reducible refine And.intro (by first | exact True.intro | assumption | omega | (intros; omega) | (intro hg; simp only [Bool.and_eq_true, Bool.or_eq_true, decide_eq_true_eq, Bool.not_eq_true', decide_eq_false_iff_not] at hg; omega) | (simp only [decide_eq_true_eq, Bool.and_eq_true, Bool.or_eq_true, Bool.not_eq_true', decide_eq_false_iff_not]; omega) | (intros; simp_all; done) | (intros; simp_all; omega)) ?_)
      have kh : (decide (((resolveM s x).2 : Int) = 0) && decide ((resolveM s x).1 = nm)) = hitS s nm x := by
        unfold hitS
        congr 1
        exact decide_eq_decide.2 (by omega)
      simp only [kh]
      refine CWp.cond rfl ?_ ?_ <;> intro hc
      · refine CWp.seq ?_
        refine CWp.reg tt_ok ?_
        have c5 : ∀ o o', ((MI.set (.b l) o).set (.b r4) o') (.b r5) = some (.cells [.int .i64 0]) := fun o o' => by rw [Mem.set_b n54]; exact b5 o
        simp only [go_sem, Nat.reduceAdd, Nat.reduceLeDiff, Nat.reduceMul, Nat.reduceSub, Nat.reduceEqDiff, b4, b5, c5]
        refine CWp.ret ?_
        have e4l : ¬ r4 = l := nl _ _ g4
        have e5l : ¬ r5 = l := nl _ _ g5
        refine ⟨LB, ?_, _, Mem.sub.refl _, .inr ⟨rfl, hc, ⟨_, Mem.set_same _ _ _, rfl, rfl⟩, ?_, ?_, ?_, ?_⟩⟩
        · show ((Mem.set _ _ _).set _ _) (.b l) = _
          rw [Mem.set_b (Ne.symm e5l), Mem.set_b (Ne.symm e4l), Mem.set_same]
        · rw [Mem.set_b e4l]
          show ((Mem.set _ _ _).set _ _) (.b r4) = _
          rw [Mem.set_b (Ne.symm n54), Mem.set_same]
        · rw [Mem.set_b e5l]
          show ((Mem.set _ _ _).set _ _) (.b r5) = _
          rw [Mem.set_same]
        · rw [Mem.set_b (Ne.symm hld)]
          show ((Mem.set _ _ _).set _ _) (.b d) = _
          rw [Mem.set_b (Ne.symm (nd _ _ g5)), Mem.set_b (Ne.symm (nd _ _ g4))]
          exact bd _
        · exact (((bs _).set_new h4).set_new h5).set_new hMl
      · refine CWp.skip ?_
        simp only [go_sem, Nat.reduceAdd, Nat.reduceLeDiff, Nat.reduceMul, Nat.reduceSub, Nat.reduceEqDiff]
        refine ⟨LB, Mem.set_same _ _ _, MI, ?_, .inl ⟨rfl, hc, rfl⟩⟩
        rw [Mem.set_set]
        have : ({ LB with state := .ready, pend := none } : LoopRec) = L0 := by
          rw [← hLB, ← p1, ← p2]
        rw [this, Mem.set_self _ _ _ il]
        exact Mem.sub.refl _
    · rintro e M' ⟨rfl, (⟨hnone, hM'⟩ | ⟨x, hx, ⟨L, q0, q1, q2⟩, q4, q5, qd, qs⟩)⟩
      · rw [hM']
        refine ⟨L0, il, by rw [p1]; simp, ?_⟩
        rw [p2]
        simp only [jumpA]
        simp only [go_sem, Nat.reduceAdd, Nat.reduceLeDiff, Nat.reduceMul, Nat.reduceSub, Nat.reduceEqDiff]
        have hnone' : shortR (hitS s nm) nm nm.length = none := by rw [← short_same _ (hitS_nil s nm)]; exact hnone
        refine CWp.seq ?_
        refine CWp.reg tt_ok ?_
        have c5 : ∀ o o', ((MI.set (.b l) o).set (.b r4) o') (.b r5) = some (.cells [.int .i64 0]) := fun o o' => by rw [Mem.set_b n54]; exact b5 o
        simp only [go_sem, Nat.reduceAdd, Nat.reduceLeDiff, Nat.reduceMul, Nat.reduceSub, Nat.reduceEqDiff, b4, b5, c5]
        refine CWp.ret ?_
        refine fin _ _ [d] [] 24 _ (.inl rfl) rfl rfl (by rw [Mem.set_b (Ne.symm n54), Mem.set_same]) (Mem.set_same _ _ _) ⟨?_, True.intro⟩ (by simpa using nd _ _ g4) (by simpa using nd _ _ g5) (((bs _).set_new h4).set_new h5) (by simpa using hMd) ?_
        · rw [Mem.set_b (Ne.symm (nd _ _ g5)), Mem.set_b (Ne.symm (nd _ _ g4))]
          exact bd _
        · simp only [shortestM, h0, cond_false, hnone']
      · refine ⟨L, q0, by rw [q1]; simp, ?_⟩
        rw [q2]
        simp only [jumpA, thenA, blockA]
        have hx' : shortR (hitS s nm) nm nm.length = some x := by rw [← short_same _ (hitS_nil s nm)]; exact hx
        have e4l : ¬ r4 = l := nl _ _ g4
        have e5l : ¬ r5 = l := nl _ _ g5
        refine fin _ _ [d] _ 0 _ (.inl rfl) rfl rfl (by rw [Mem.set_b e4l]; exact q4) (by rw [Mem.set_b e5l]; exact q5) ⟨by rw [Mem.set_b (Ne.symm hld)]; exact qd, True.intro⟩ (by simpa using nd _ _ g4) (by simpa using nd _ _ g5) (qs.set_new hMl) (by simpa using hMd) ?_
        simp only [shortestM, h0, cond_false, hx']
end Go.Proofs.ScA
