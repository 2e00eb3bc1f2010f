import Derived.Test.YticifcoffgoajaaDoorLx8
set_option linter.unusedVariables false
set_option linter.unusedSimpArgs false
set_option maxRecDepth 100000
namespace Go.Proofs.LxA
open Go Go.Am Go.Proofs Go.RowKit
set_option linter.unusedSectionVars false

/-! White space in front of a token. -/
def syS : List (List UInt8) := [[42], [60, 61], [105, 102]]
theorem syS_ok : syS.any (fun x => !symM x) = false := by kernel_rfl
/-- Fit to be put in front of a token. -/
structure Blank (sp : List UInt8) : Prop where
  out : ∀ l, skipL false (sp ++ l) = sp.length + skipL false l
  inn : skipL true sp = sp.length
  brk : ∀ r, brk (fixedL ++ syS) (sp ++ r)
  len : sp.length ≤ 20

theorem dash_two (l : List UInt8) (k n : Nat) (ht : tokL syS l = (k, n, 0)) (hd : dash1 l = true) : 2 ≤ n := by
  cases l with
  | nil => cases hd
  | cons c l =>
    simp only [dash1, decide_eq_true_eq] at hd
    subst hd
    have hb : byteH (45 :: l) = 45 := rfl
    unfold tokL at ht
    rw [hb] at ht
    have e1 : beginsB 45 = false := rfl
    have e2 : digitB 45 = false := rfl
    have e3 : decide ((45 : Int) = 34) = false := rfl
    rw [e1, e2, e3] at ht
    simp only [cond_false] at ht
    obtain ⟨_, a2⟩ := longL_max (fixedL ++ syS) (45 :: l)
    generalize longL (fixedL ++ syS) (45 :: l) = q at *
    cases h : decide (q = 0) with
    | true => rw [h] at ht; cases ht
    | false =>
      rw [h] at ht
      simp only [cond_false, Prod.mk.injEq] at ht
      obtain ⟨_, rfl, _⟩ := ht
      have h := of_decide_eq_false h
      rcases a2 with a2 | ⟨x, hx, hp, hl⟩
      · exact absurd a2 h
      · rw [← hl]
        unfold preB at hp
        have hp := of_decide_eq_true hp
        cases x with
        | nil => simp at hl; exact absurd hl.symm h
        | cons d x =>
          simp only [List.length_cons, List.take_succ_cons, List.cons.injEq] at hp
          have hall : ∀ x ∈ fixedL ++ syS, x.head? = some 45 → 2 ≤ x.length := by decide
          exact hall _ hx (by rw [← hp.1]; rfl)

theorem Scans.ins {sp : List UInt8} (hsp : Blank sp) {off : Nat} {l : List UInt8} {ts : List Tok} (hS : Scans syS off l ts) : skipL false l = 0 → ∀ (j : Nat) (t : Tok), ts[j]? = some t → ∀ off', ∃ m ts', t.2.2 = off + m ∧ m ≤ l.length ∧ alike ts ts' ∧
    ((j = 0 ∧ m = 0 ∧ Scans syS off' l ts') ∨ (1 ≤ m ∧ (dash1 l = true → 2 ≤ m) ∧ Scans syS off' (l.take m ++ (sp ++ l.drop m)) ts')) := by
  induction hS with
  | done off =>
    intro h0 j t hj off'
    cases j with
    | zero =>
      cases hj
      exact ⟨0, [(4, [], off')], rfl, Nat.le_refl _, rfl, .inl ⟨rfl, rfl, .done off'⟩⟩
    | succ j => simp at hj
  | step off l k n ts h ht hs ih =>
    intro h0 j t hj off'
    have hok := tokL_ok syS l h (by rw [ht])
    rw [ht] at hok
    simp only at hok
    cases j with
    | zero =>
      cases hj
      obtain ⟨ts', h1, h2⟩ := (Scans.step off l k n ts h ht hs).shift off'
      exact ⟨0, ts', rfl, Nat.zero_le _, h2, .inl ⟨rfl, rfl, h1⟩⟩
    | succ j =>
      have h1 : skipL false (l.drop (n + skipL false (l.drop n))) = 0 := by
        have := skipL_idem false (l.drop n)
        rwa [List.drop_drop] at this
      have hkb := skipL_le false (l.drop n)
      rw [List.length_drop] at hkb
      have ih := ih h1 j t (by simpa using hj)
      generalize hsk : skipL false (l.drop n) = sk at *
      -- where the token stands
      obtain ⟨m1, _, hm1, hm2, _, hor⟩ := ih 0
      rw [List.length_drop] at hm2
      refine ⟨n + sk + m1, ?_⟩
      have hdd : dash1 l = true → 2 ≤ n + sk + m1 := fun hd => by have := dash_two l k n ht hd; omega
      have hm : n + sk + m1 ≤ l.length := by omega
      have htk := tok_cut syS l (sp ++ l.drop (n + sk + m1)) (n + sk + m1) k n h ht (by omega) hm (hsp.brk _)
      have hdr := drop_cut l (sp ++ l.drop (n + sk + m1)) (n + sk + m1) n (by omega) hm
      rw [show n + sk + m1 - n = sk + m1 by omega] at hdr
      have htt := take_cut l (sp ++ l.drop (n + sk + m1)) (n + sk + m1) n (by omega) hm
      have hne : l.take (n + sk + m1) ++ (sp ++ l.drop (n + sk + m1)) ≠ [] := by
        cases l with
        | nil => exact absurd rfl h
        | cons c l =>
          rw [show n + sk + m1 = (n - 1 + sk + m1) + 1 by omega]
          simp
      have hx : (l.drop n).take sk ++ l.drop (n + sk) = l.drop n := by
        rw [← List.drop_drop, List.take_append_drop]
      have hxl : ((l.drop n).take sk).length = sk := by rw [List.length_take, List.length_drop]; omega
      by_cases hmz : m1 = 0
      · subst hmz
        have hins := skipL_ins sp hsp.out hsp.inn false ((l.drop n).take sk) (l.drop (n + sk)) (by rw [hx, hxl]; exact hsk)
        rw [hxl] at hins
        simp only [Nat.add_zero] at *
        have hd2 : (l.take (n + sk) ++ (sp ++ l.drop (n + sk))).drop (n + (sk + sp.length)) = l.drop (n + sk) := by
          rw [← List.drop_drop, hdr, ← List.append_assoc, List.drop_append_of_le_length (by rw [List.length_append, hxl]; omega), List.drop_eq_nil_of_le (by rw [List.length_append, hxl]; omega), List.nil_append]
        have hstep := fun ts' hs' => Scans.step off' (l.take (n + sk) ++ (sp ++ l.drop (n + sk))) k n ts' hne htk (by rw [hdr, hins, hd2]; exact hs')
        rw [htt] at hstep
        obtain ⟨m2, ts2, g1, _, g2, g3⟩ := ih (off' + n + (sk + sp.length))
        have hm20 : m2 = 0 := by omega
        rcases g3 with ⟨_, _, g3⟩ | ⟨g3, _⟩
        · exact ⟨_, by omega, by omega, g2.cons, .inr ⟨by omega, hdd, hstep ts2 g3⟩⟩
        · omega
      · have hd1 : sk + m1 = sk + 1 → dash1 (sp ++ l.drop (n + sk + m1)) = true → dash1 ((l.drop n).drop sk) = false := by
          intro he _
          rcases hor with ⟨_, h0, _⟩ | ⟨_, h2, _⟩
          · exact absurd h0 hmz
          · rw [List.drop_drop]
            cases hq : dash1 (l.drop (n + sk)) with
            | false => rfl
            | true => have := h2 hq; omega
        have hskip := skipL_cut (sp ++ l.drop (n + sk + m1)) false (l.drop n) (sk + m1) (by rw [hsk]; omega) (by rw [List.length_drop]; omega) (by rw [hsk]; exact hd1)
        rw [hsk] at hskip
        have hd2 : (l.take (n + sk + m1) ++ (sp ++ l.drop (n + sk + m1))).drop (n + sk) = (l.drop (n + sk)).take m1 ++ (sp ++ (l.drop (n + sk)).drop m1) := by
          rw [drop_cut l _ _ _ (by omega) hm, show n + sk + m1 - (n + sk) = m1 by omega, List.drop_drop]
        have hstep := fun ts' hs' => Scans.step off' (l.take (n + sk + m1) ++ (sp ++ l.drop (n + sk + m1))) k n ts' hne htk (by rw [hdr, hskip, hd2]; exact hs')
        rw [htt] at hstep
        obtain ⟨m2, ts2, g1, _, g2, g3⟩ := ih (off' + n + sk)
        have hm20 : m2 = m1 := by omega
        subst hm20
        rcases g3 with ⟨_, h0, _⟩ | ⟨_, _, g3⟩
        · exact absurd h0 hmz
        · exact ⟨_, by omega, by omega, g2.cons, .inr ⟨by omega, hdd, hstep ts2 g3⟩⟩

theorem spaces_plain (s sp : List UInt8) (hsp : Blank sp) (hs : s.length ≤ 1000) (ts : List Tok) (h : scanM s syS = (ts, 0, 0)) (j : Nat) (t : Tok) (hj : ts[j]? = some t) :
    t.2.2 ≤ s.length ∧ ∃ ts', scanM (s.take t.2.2 ++ (sp ++ s.drop t.2.2)) syS = (ts', 0, 0) ∧ alike ts ts' := by
  rcases scanM_or s syS syS_ok (by omega) with ⟨ts0, h1, h2⟩ | ⟨i, e, h0, h1, h2⟩
  · rw [h2] at h; cases h
    have hz : skipL false (s.drop (lead s)) = 0 := skipL_idem false s
    have hle := lead_le s
    obtain ⟨m, _, g1, g2, _, g3⟩ := h1.ins hsp hz j t hj 0
    rw [List.length_drop] at g2
    have hx : s.take (lead s) ++ s.drop (lead s) = s := List.take_append_drop _ _
    have hxl : (s.take (lead s)).length = lead s := by rw [List.length_take]; omega
    have hlen : (s.take t.2.2 ++ (sp ++ s.drop t.2.2)).length ≤ 65536 := by
      have := hsp.len
      simp only [List.length_append, List.length_take, List.length_drop]; omega
    refine ⟨by omega, ?_⟩
    by_cases hm0 : m = 0
    · subst hm0
      have hins := skipL_ins sp hsp.out hsp.inn false (s.take (lead s)) (s.drop (lead s)) (by rw [hx, hxl]; rfl)
      rw [hxl] at hins
      have hl : lead (s.take t.2.2 ++ (sp ++ s.drop t.2.2)) = lead s + sp.length := by rw [g1]; exact hins
      obtain ⟨_, ts2, _, _, g4, g5⟩ := h1.ins hsp hz j t hj (lead s + sp.length)
      refine ⟨ts2, scanM_scans _ syS syS_ok hlen ts2 ?_, g4⟩
      rw [hl]
      have hd2 : (s.take t.2.2 ++ (sp ++ s.drop t.2.2)).drop (lead s + sp.length) = s.drop (lead s) := by
        rw [g1, Nat.add_zero, ← List.append_assoc, List.drop_append_of_le_length (by rw [List.length_append, hxl]; omega), List.drop_eq_nil_of_le (by rw [List.length_append, hxl]; omega), List.nil_append]
      rw [hd2]
      rcases g5 with ⟨_, _, g5⟩ | ⟨g5, _⟩
      · exact g5
      · omega
    · have hd1 : t.2.2 = lead s + 1 → dash1 (sp ++ s.drop t.2.2) = true → dash1 (s.drop (lead s)) = false := by
        intro he _
        rcases g3 with ⟨_, h0, _⟩ | ⟨_, h2, _⟩
        · exact absurd h0 hm0
        · cases hq : dash1 (s.drop (lead s)) with
          | false => rfl
          | true => have := h2 hq; omega
      have hl : lead (s.take t.2.2 ++ (sp ++ s.drop t.2.2)) = lead s := skipL_cut (sp ++ s.drop t.2.2) false s t.2.2 (by unfold lead at *; omega) (by omega) hd1
      obtain ⟨m2, ts2, q1, _, g4, g5⟩ := h1.ins hsp hz j t hj (lead s)
      have hm20 : m2 = m := by omega
      subst hm20
      refine ⟨ts2, scanM_scans _ syS syS_ok hlen ts2 ?_, g4⟩
      rw [hl]
      have hd2 : (s.take t.2.2 ++ (sp ++ s.drop t.2.2)).drop (lead s) = (s.drop (lead s)).take m2 ++ (sp ++ (s.drop (lead s)).drop m2) := by
        rw [drop_cut s _ _ _ (by omega) (by omega), g1, show lead s + m2 - lead s = m2 by omega, List.drop_drop]
      rw [hd2]
      rcases g5 with ⟨_, h0, _⟩ | ⟨_, _, g5⟩
      · exact absurd h0 hm0
      · exact g5
  · rw [h2] at h; simp only [Prod.mk.injEq] at h; exact absurd h.2.2 h0

def spaceT : List (List UInt8) := [[32], [10], [9, 13], [45, 45, 32, 97, 32, 34, 98, 32, 51, 10], [10, 10]]
theorem blank_of (c : UInt8) (x : List UInt8) (h1 : ∀ l, skipL false (c :: x ++ l) = (c :: x).length + skipL false l) (h2 : skipL true (c :: x) = (c :: x).length) (h3 : isComp (c.toNat : Int) = false ∧ c ≠ 46 ∧ ∀ y ∈ fixedL ++ syS, c ∉ y.drop 1) (h4 : (c :: x).length ≤ 20) : Blank (c :: x) :=
  ⟨h1, h2, fun r d r' e => by cases e; exact h3, h4⟩
theorem blanks : ∀ sp ∈ spaceT, Blank sp := by
  intro sp h
  simp only [spaceT, List.mem_cons, List.not_mem_nil, or_false] at h
  rcases h with rfl | rfl | rfl | rfl | rfl
  · refine blank_of _ _ (fun l => ?_) (by decide) (by decide) (by decide)
    show skipL false l + 1 = _
    simp; omega
  · refine blank_of _ _ (fun l => ?_) (by decide) (by decide) (by decide)
    show skipL false l + 1 = _
    simp; omega
  · refine blank_of _ _ (fun l => ?_) (by decide) (by decide) (by decide)
    show skipL false l + 1 + 1 = _
    simp; omega
  · refine blank_of _ _ (fun l => ?_) (by decide) (by decide) (by decide)
    show skipL false l + 1 + 1 + 1 + 1 + 1 + 1 + 1 + 1 + 1 + 1 = _
    simp; omega
  · refine blank_of _ _ (fun l => ?_) (by decide) (by decide) (by decide)
    show skipL false l + 1 + 1 = _
    simp; omega
end Go.Proofs.LxA
