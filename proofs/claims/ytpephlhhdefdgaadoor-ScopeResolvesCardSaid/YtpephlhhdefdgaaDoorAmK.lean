/- The evaluation of regions and code in the resolved form. -/
import Derived.Test.YtpephlhhdefdgaaDoorAmJ
set_option linter.unusedSectionVars false
set_option linter.unusedVariables false
set_option linter.unusedSimpArgs false
namespace Go.Am
open Go.RowKit
variable [Inhabited LaidBox] {ro : Option Nat}

section
variable {P : Program} {T : TT} {o : Oper} {st : St}

theorem descOf_und (hT : TTOk P T) {t : TypeId} {d : TypeDesc} (h : descOf T t = d) (hd : d ≠ .invalid) : P.underlying t = some d := by
  unfold descOf at h
  cases ht : T t with
  | none => simp [ht] at h; exact absurd h.symm hd
  | some i => simp [ht] at h; rw [← h]; exact (hT t i ht).und

theorem oX_is {ty : TypeId} {y : Option Operand} {x : Option Opd} (h : oX T ty y = some x) : (x = none ∧ y = none) ∨ ∃ x0 y0, x = some x0 ∧ y = some y0 ∧ IsOpd x0 y0 := by
  cases y with
  | none => cases h; exact .inl ⟨rfl, rfl⟩
  | some y =>
    simp only [oX, Option.map_eq_some_iff] at h
    obtain ⟨x0, hx0, rfl⟩ := h
    exact .inr ⟨x0, y, rfl, rfl, cX_is hx0⟩

theorem isNilC_is {k : NK} {y : Operand} (h : isNilC k y = true) : y = .const (nilOf k) := by
  unfold isNilC at h
  split at h <;> first | rfl | simp at h

theorem sound_binOp (hT : TTOk P T) {esc : List Nat} {k : CK} {op : BinOp} {t t' : TypeId} {x y : Operand} (ho : o.op = .binOp op t x y t') (hk : compK T esc o = some k) {tv : TV} {p : Prop} (h : pev k true st = some (tv, p)) (hp : p) : OpVal P o st st tv := by
  simp only [compK, ho] at hk
  split at hk
  · split at hk
    · rename_i x' y' hx hy
      split at hk
      · cases hk; exact sound_ar ho (.inl rfl) (cX_is hx) (cX_is hy) h hp
      · cases hk; exact sound_ar ho (.inr (.inl rfl)) (cX_is hx) (cX_is hy) h hp
      · cases hk; exact sound_ar ho (.inr (.inr rfl)) (cX_is hx) (cX_is hy) h hp
      · cases hk; exact sound_qr ho (.inl rfl) (cX_is hx) (cX_is hy) h hp
      · cases hk; exact sound_qr ho (.inr rfl) (cX_is hx) (cX_is hy) h hp
      · cases hk; exact sound_ic ho (.inl rfl) (cX_is hx) (cX_is hy) h hp
      · cases hk; exact sound_ic ho (.inr (.inl rfl)) (cX_is hx) (cX_is hy) h hp
      · cases hk; exact sound_ic ho (.inr (.inr (.inl rfl))) (cX_is hx) (cX_is hy) h hp
      · cases hk; exact sound_ic ho (.inr (.inr (.inr (.inl rfl)))) (cX_is hx) (cX_is hy) h hp
      · cases hk; exact sound_ic ho (.inr (.inr (.inr (.inr (.inl rfl))))) (cX_is hx) (cX_is hy) h hp
      · cases hk; exact sound_ic ho (.inr (.inr (.inr (.inr (.inr rfl))))) (cX_is hx) (cX_is hy) h hp
      · cases hk
    · cases hk
  · split at hk
    · rename_i x' y' hx hy
      split at hk
      · cases hk; exact sound_cat ho (cX_is hx) (cX_is hy) h hp
      · cases hk; exact sound_sc ho (.inl rfl) (cX_is hx) (cX_is hy) h hp
      · cases hk; exact sound_sc ho (.inr rfl) (cX_is hx) (cX_is hy) h hp
      · cases hk
    · cases hk
  · rename_i hd
    split at hk
    · rename_i x' y' hx hy
      split at hk
      · cases hk; exact sound_bc ho (.inl rfl) (descOf_und hT hd (by simp)) (cX_is hx) (cX_is hy) h hp
      · cases hk; exact sound_bc ho (.inr rfl) (descOf_und hT hd (by simp)) (cX_is hx) (cX_is hy) h hp
      · cases hk
    · cases hk
  all_goals first
    | (cases hk; done)
    | (rename_i hd
       split at hk
       · rename_i hcond
         simp only [Bool.and_eq_true] at hcond
         simp only [Option.map_eq_some_iff] at hk
         obtain ⟨x', hx, rfl⟩ := hk
         have hop : op = .eql ∨ op = .neq := by
           have := hcond.2
           cases op <;> first | exact .inl rfl | exact .inr rfl | simp [isEqOp] at this
         have hy := isNilC_is hcond.1
         subst hy
         exact sound_nl ho hop (descOf_und hT hd (by simp)) trivial (cX_is hx) h hp
       · cases hk)

theorem sound_tas {ok : Bool} {x : Opd} {x' : Operand} {t xt : TypeId} {j : TI} (ho : o.op = .typeAssert x' xt t ok) (hj : TIOk P t j) (hd : ∀ ms, j.desc ≠ .interface ms) (hx : IsOpd x x')
    {tv : TV} {p : Prop} (h : pev (.tas ok t j.zero x) true st = some (tv, p)) (hp : p) : OpVal P o st st tv := by
  simp only [pev] at h
  split at h
  · rename_i t' v q h1
    split at h
    · rename_i hok
      subst hok
      cases h
      refine .pure fun B E F blk rw a w hr => ?_
      obtain ⟨c, e1, hc⟩ := (hr.rd hx h1 hp).iface_inv
      obtain ⟨z, z1, z2, z3, z4, z5⟩ := hj.zero_rep E w
      by_cases ht : t' = t
      · refine ⟨.tuple #[c, .bool true], ?_, ?_⟩
        · simp only [execOp, ho, e1]
          refine run_v ?_
          simp only [Instr.typeAssert, Sem.run_bind, hj.run_und w, Result.andThen_ok]
          cases hdd : j.desc <;> first | exact absurd hdd (hd _) | simp [ht]
        · have := Rep.tup (E := E) [v, .bool true] [c, .bool true] (.cons _ _ _ _ hc (.cons _ _ _ _ (.bool _) .nil))
          simpa [RelV, ht] using this
      · refine ⟨.tuple #[z, .bool false], ?_, ?_⟩
        · simp only [execOp, ho, e1]
          refine run_v ?_
          simp only [Instr.typeAssert, Sem.run_bind, hj.run_und w, Result.andThen_ok]
          cases hdd : j.desc <;> first | exact absurd hdd (hd _) | simp [ht, z1]
        · have := Rep.tup (E := E) [j.zero, .bool false] [z, .bool false] (.cons _ _ _ _ z2 (.cons _ _ _ _ (.bool _) .nil))
          simpa [RelV, ht] using this
    · rename_i hok
      have hok : ok = false := by simpa using hok
      subst hok
      cases h
      obtain ⟨p1, rfl⟩ := hp
      refine .pure fun B E F blk rw a w hr => ?_
      obtain ⟨c, e1, hc⟩ := (hr.rd hx h1 p1).iface_inv
      refine ⟨c, ?_, hc⟩
      simp only [execOp, ho, e1]
      refine run_v ?_
      simp only [Instr.typeAssert, Sem.run_bind, hj.run_und w, Result.andThen_ok]
      cases hdd : j.desc <;> first | exact absurd hdd (hd _) | simp
  · rename_i q h1
    split at h
    · rename_i hok
      subst hok
      cases h
      refine .pure fun B E F blk rw a w hr => ?_
      have e1 := (hr.rd hx h1 hp).niliface_inv
      obtain ⟨z, z1, z2, z3, z4, z5⟩ := hj.zero_rep E w
      refine ⟨.tuple #[z, .bool false], ?_, ?_⟩
      · simp only [execOp, ho, e1]
        refine run_v ?_
        simp only [Instr.typeAssert, Sem.run_bind, hj.run_und w, Result.andThen_ok]
        cases hdd : j.desc <;> first | exact absurd hdd (hd _) | simp [z1]
      · have := Rep.tup (E := E) [j.zero, .bool false] [z, .bool false] (.cons _ _ _ _ z2 (.cons _ _ _ _ (.bool _) .nil))
        simpa [RelV] using this
    · cases h
  · cases h

theorem sound_lk {t kt et : TypeId} {j : TI} {m k : Opd} {m' k' : Operand} {ok : Bool} (ho : o.op = .lookup t m' k' ok) (ht : P.underlying t = some (.map kt et)) (hkt : P.underlying kt = some .string) (hj : TIOk P et j) (hm : IsOpd m m') (hk : IsOpd k k')
    {tv : TV} {p : Prop} (h : pev (.lk ok j.zero m k) true st = some (tv, p)) (hp : p) : OpVal P o st st tv := by
  simp only [pev] at h
  split at h
  · rename_i s q hks
    split at h
    · rename_i r p1 hmr
      split at h
      · rename_i kvs hM
        cases h
        refine .pure fun B E F blk rw a w hr => ?_
        obtain ⟨b, e1, rfl⟩ := (hr.rd hk hks hp.2).str_inv
        have e2 := (hr.rd hm hmr hp.1).map_inv
        obtain ⟨MM, hmm⟩ := hr.mem
        obtain ⟨c, h1, h2⟩ := run_lookup_map ht hkt hj hmm.sim (hmm.sub _ _ hM) b ok
        refine ⟨if ok then .tuple #[c, .bool (findS kvs b.data.toList).isSome] else c, ?_, ?_⟩
        · simp only [execOp, ho, e1, e2]
          exact run_v h1
        · cases ok with
          | false => exact h2
          | true => exact .tup _ _ (.cons _ _ _ _ h2 (.cons _ _ _ _ (.bool _) .nil))
      · cases h
    · rename_i p1 hmr
      cases h
      refine .pure fun B E F blk rw a w hr => ?_
      obtain ⟨b, e1, rfl⟩ := (hr.rd hk hks hp.2).str_inv
      have e2 := (hr.rd hm hmr hp.1).nilmap_inv
      obtain ⟨c, h1, h2⟩ := run_lookup_nil (P := P) (w := w) ht hkt hj (E := E) b ok
      refine ⟨if ok then .tuple #[c, .bool false] else c, ?_, ?_⟩
      · simp only [execOp, ho, e1, e2]
        exact run_v h1
      · cases ok with
        | false => exact h2
        | true => exact .tup _ _ (.cons _ _ _ _ h2 (.cons _ _ _ _ (.bool _) .nil))
    · cases h
  · cases h

theorem pev_ok (hT : TTOk P T) {esc : List Nat} {k : CK} (hk : compK T esc o = some k) {tv : TV} {p : Prop} (h : pev k true st = some (tv, p)) (hp : p) : OpVal P o st st tv := by
  cases ho : o.op with
  | move x =>
    simp only [compK, ho, Option.map_eq_some_iff] at hk
    obtain ⟨x', hx, rfl⟩ := hk
    exact sound_mv (.inl ho) (cX_is hx) h hp
  | assign x =>
    simp only [compK, ho, Option.map_eq_some_iff] at hk
    obtain ⟨x', hx, rfl⟩ := hk
    exact sound_mv (.inr ho) (cX_is hx) h hp
  | pick c a b =>
    simp only [compK, ho] at hk
    split at hk
    · rename_i c' a' b' hc ha hb
      cases hk
      exact sound_pick ho (cX_is hc) (cX_is ha) (cX_is hb) h hp
    · cases hk
  | binOp op t x y t' => exact sound_binOp hT ho hk h hp
  | unOp op t x =>
    cases op <;> simp only [compK, ho, Option.map_eq_some_iff, reduceCtorEq] at hk
    · obtain ⟨x', hx, rfl⟩ := hk
      exact sound_ng ho (cX_is hx) h hp
    · obtain ⟨x', hx, rfl⟩ := hk
      exact sound_no ho (cX_is hx) h hp
  | index t x i =>
    simp only [compK, ho] at hk
    split at hk
    · rename_i hd hx hi
      cases hk
      exact sound_si ho (descOf_und hT hd (by simp)) (cX_is hx) (cX_is hi) h hp
    · split at hk
      · cases hk
        cases h
      · cases hk
    · cases hk
  | slice t x lo hi mx =>
    cases mx with
    | some m => simp [compK, ho] at hk
    | none =>
      simp only [compK, ho] at hk
      split at hk
      · rename_i x' lo' hi' hx hlo hhi
        split at hk
        · rename_i hd
          cases hk
          exact sound_ss ho (descOf_und hT hd (by simp)) (cX_is hx) (oX_is hlo) (oX_is hhi) h hp
        · rename_i e hd
          simp only [sizeT, Option.map_eq_some_iff] at hk
          obtain ⟨n, ⟨j, hj, rfl⟩, rfl⟩ := hk
          exact sound_sls ho (descOf_und hT hd (by simp)) (hT _ _ hj) (cX_is hx) (oX_is hlo) (oX_is hhi) h hp
        · cases hk
      · cases hk
  | field t x f =>
    simp only [compK, ho] at hk
    split at hk
    · rename_i fs x' hd hx
      split at hk
      · rename_i fd hf
        split at hk
        · rename_i j hj
          cases hk
          exact sound_fl ho (descOf_und hT hd (by simp)) hf (hT _ _ hj) rfl rfl rfl (cX_is hx) h hp
        · cases hk
      · cases hk
    · cases hk
  | fieldAddr t x f =>
    simp only [compK, ho] at hk
    split at hk
    · rename_i fs x' hd hx
      split at hk
      · rename_i fd hf
        split at hk
        · rename_i j hj
          split at hk
          · cases hk
          · rename_i hz
            cases hk
            exact sound_fa ho (descOf_und hT hd (by simp)) hf (hT _ _ hj) hz rfl (cX_is hx) h hp
        · cases hk
      · cases hk
    · cases hk
  | indexAddr t x i =>
    simp only [compK, ho] at hk
    split at hk
    · rename_i e x' i' hd hx hi
      simp only [sizeT, Option.map_eq_some_iff] at hk
      obtain ⟨n, ⟨j, hj, rfl⟩, rfl⟩ := hk
      exact sound_ia ho (descOf_und hT hd (by simp)) (hT _ _ hj) (cX_is hx) (cX_is hi) h hp
    · cases hk
  | load t x =>
    simp only [compK, ho] at hk
    split at hk
    · rename_i j x' hj hx
      cases hk
      exact sound_ld ho (hT _ _ hj) rfl rfl (cX_is hx) h hp
    · cases hk
  | nilCheck x =>
    simp only [compK, ho, Option.map_eq_some_iff] at hk
    obtain ⟨x', hx, rfl⟩ := hk
    exact sound_nc ho (cX_is hx) h hp
  | makeInterface t x =>
    simp only [compK, ho] at hk
    split at hk
    · cases hk
    · cases hk
    · rename_i d h1 h2
      simp only [Option.map_eq_some_iff] at hk
      obtain ⟨x', hx, rfl⟩ := hk
      exact sound_mi ho (descOf_und hT rfl h2) h1 (cX_is hx) h hp
  | makeFunc fn first cap =>
    simp only [compK, ho] at hk
    split at hk
    · rename_i a b ha hb
      cases hk
      exact sound_mf ho (cXL_is ha) (cXL_is hb) h hp
    · cases hk
  | extract x i =>
    simp only [compK, ho, Option.map_eq_some_iff] at hk
    obtain ⟨x', hx, rfl⟩ := hk
    exact sound_ex ho (cX_is hx) h hp
  | convert s d x =>
    simp only [compK, ho] at hk
    split at hk
    · rename_i k0 k1 hs hd
      simp only [Option.map_eq_some_iff] at hk
      obtain ⟨x', hx, rfl⟩ := hk
      exact sound_cv ho (descOf_und hT hs (by simp)) (descOf_und hT hd (by simp)) (cX_is hx) h hp
    · rename_i hs hd
      simp only [Option.map_eq_some_iff] at hk
      obtain ⟨x', hx, rfl⟩ := hk
      exact sound_cvs ho (descOf_und hT hs (by simp)) (descOf_und hT hd (by simp)) (cX_is hx) h hp
    · cases hk
  | build t parts =>
    simp only [compK, ho] at hk
    split at hk
    · rename_i j hj
      split at hk
      · rename_i fs hd
        split at hk
        · rename_i hall
          simp only [Option.map_eq_some_iff] at hk
          obtain ⟨ps, hps, rfl⟩ := hk
          exact sound_bd hT ho (hT _ _ hj) hd hall hps h hp
        · cases hk
      · cases hk
    · cases hk
  | buildSlice t len parts =>
    simp only [compK, ho] at hk
    split at hk
    · rename_i e hd
      split at hk
      · rename_i j hj
        split at hk
        · rename_i hc
          simp only [Option.map_eq_some_iff] at hk
          obtain ⟨ps, hps, rfl⟩ := hk
          exact sound_bs ho (descOf_und hT hd (by simp)) (hT _ _ hj) hc hps h hp
        · cases hk
      · cases hk
    · cases hk
  | call c =>
    simp only [compK, ho] at hk
    split at hk
    · simp only [Option.map_eq_some_iff] at hk
      obtain ⟨xs, _, rfl⟩ := hk
      cases h
    · split at hk
      · cases hk; cases h
      · cases hk
    · rename_i hcal
      split at hk
      · rename_i x t hargs htys
        split at hk
        · rename_i hd
          simp only [Option.map_eq_some_iff] at hk
          obtain ⟨x', hx, rfl⟩ := hk
          exact sound_ln (s := true) ho hcal hargs htys (descOf_und hT hd (by simp)) (cX_is hx) h hp
        · rename_i e hd
          simp only [Option.map_eq_some_iff] at hk
          obtain ⟨x', hx, rfl⟩ := hk
          exact sound_ln (s := false) ho hcal hargs htys (show ∃ e, P.underlying t = some (.slice e) from ⟨e, descOf_und hT hd (by simp)⟩) (cX_is hx) h hp
        · cases hk
      · cases hk
    · repeat' (split at hk)
      all_goals first | (cases hk; cases h; done) | (cases hk; done)
    · rename_i hcal
      split at hk
      · rename_i x y hargs
        split at hk
        · rename_i x' y' hx hy
          cases hk
          exact sound_mn (mx := false) ho hcal hargs (cX_is hx) (cX_is hy) h hp
        · cases hk
      · cases hk
    · rename_i hcal
      split at hk
      · rename_i x y hargs
        split at hk
        · rename_i x' y' hx hy
          cases hk
          exact sound_mn (mx := true) ho hcal hargs (cX_is hx) (cX_is hy) h hp
        · cases hk
      · cases hk
    · cases hk; cases h
    · cases hk
  | alloc e =>
    simp only [compK, ho] at hk
    split at hk
    · split at hk
      · cases hk; split at h <;> cases h
      · cases hk
    · cases hk
  | box e x =>
    simp only [compK, ho] at hk
    split at hk
    · simp only [Option.map_eq_some_iff] at hk
      obtain ⟨x', hx, rfl⟩ := hk
      split at h <;> cases h
    · cases hk
  | insert t m k' x =>
    simp only [compK, ho] at hk
    split at hk
    · split at hk
      · cases hk; cases h
      · cases hk
    · cases hk
  | store t p' x =>
    simp only [compK, ho] at hk
    split at hk
    · cases hk; cases h
    · cases hk
  | sliceToArrayPointer d x => simp [compK, ho] at hk
  | makeMap t r =>
    cases r with
    | some r => simp [compK, ho] at hk
    | none =>
      simp only [compK, ho] at hk
      split at hk
      · cases hk; cases h
      · cases hk
  | makeChan t s => simp [compK, ho] at hk
  | makeSlice t l c =>
    simp only [compK, ho] at hk
    split at hk
    · split at hk
      · cases hk; cases h
      · cases hk
    · cases hk
  | lookup t m k' ok =>
    simp only [compK, ho] at hk
    split at hk
    · rename_i kt et m' k'' hd hm hkx
      split at hk
      · rename_i j hkt hj
        cases hk
        exact sound_lk ho (descOf_und hT hd (by simp)) (descOf_und hT hkt (by simp)) (hT _ _ hj) (cX_is hm) (cX_is hkx) h hp
      · cases hk
    · cases hk
  | mapUpdate t m k' x =>
    simp only [compK, ho] at hk
    split at hk
    · split at hk
      · cases hk; cases h
      · cases hk
    · cases hk
  | mapEntry t m k' => simp [compK, ho] at hk
  | entryStore t m s x => simp [compK, ho] at hk
  | range t x => simp [compK, ho] at hk
  | next it s => simp [compK, ho] at hk
  | entry it => simp [compK, ho] at hk
  | typeAssert x xt t ok =>
    simp only [compK, ho] at hk
    split at hk
    · rename_i j x' hj hx
      split at hk
      · cases hk
      · rename_i hd
        cases hk
        exact sound_tas ho (hT _ _ hj) hd (cX_is hx) h hp
    · cases hk
  | go c => simp [compK, ho] at hk
  | defer c =>
    simp only [compK, ho] at hk
    split at hk
    · split at hk
      · cases hk; cases h
      · cases hk
    · cases hk
  | panic x =>
    simp only [compK, ho, Option.map_eq_some_iff] at hk
    obtain ⟨x', hx, rfl⟩ := hk
    cases h
  | send c x => simp [compK, ho] at hk
  | recv t c ok => simp [compK, ho] at hk
  | select cs b => simp [compK, ho] at hk
  | ready g => simp [compK, ho] at hk
  | waits g => simp [compK, ho] at hk
end
end Go.Am
