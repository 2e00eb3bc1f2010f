/- Loops over functions, in the resolved form. -/
import Derived.Test.YtpephlhhdefdgaaDoorAmU
set_option linter.unusedSectionVars false
set_option linter.unusedVariables false
set_option linter.unusedSimpArgs false
namespace Go.Am
open Go.RowKit
variable [Inhabited LaidBox] {ro : Option Nat}
section
variable {P : Program} {T : TT} {esc : List Nat} {Q : AExit → St → Prop} {st : St}

theorem CWp.rangeF {x : Opd} {ps : Array Tmp} {p q : CC} {f : FuncId} {first cap : List AV} (hg : st.get x = .v (.fn (.func f) first cap)) (hbody : Has P f)
    (h : ∀ l d fn ca cb, comp T esc ca = p → comp T esc cb = q → st.M (.b l) = none → st.M (.b d) = none → l ≠ d → ACalls P f (first ++ [.fn (.yield l) [] []] ++ cap) (loopM st l d fn ps ca cb) (loopR Q st l d)) :
    CWp none P T esc (.rangeF x ps p q) Q st := by
  intro c hc
  cases c with
  | rangeFunc y ps' a b =>
    simp only [comp] at hc
    split at hc
    · rename_i x' hx'
      cases hc
      exact AWp.rangeFunc (cX_is hx') hg hbody fun l d fn h1 h2 h3 => h l d fn a b rfl rfl h1 h2 h3
    · cases hc
  | region id ops draw => cases draw <;> cases hc
  | cond x a b => simp only [comp] at hc; split at hc <;> cases hc
  | _ => cases hc

theorem AYields.of_cc {l : Nat} {args : List AV} {M : Mem} {R : AEnd → Mem → Prop} {L : LoopRec} {p q : CC} (hM : M (.b l) = some (.loop L)) (hlen : args.length = L.ps.size) (hp : comp T esc L.assign = p) (hq : comp T esc L.body = q)
    (h : CWp (some l) P T esc p (fun x st1 => x = .normal ∧ ∃ L', st1.M (.b l) = some (.loop L') ∧ L'.state = .ready ∧
        CWp (some l) P T esc q (roundA l R) { st1 with M := st1.M.set (.b l) (.loop { L' with state := .busy }) })
      { tmps := roundT L.ps.toList args (L.vs.map avT), loc := [], rows := [], defs := [], M := M }) : AYields P l args M R :=
  AYields.of_wp hM hlen ((h _ hp).mono fun x st1 ⟨hx, L', h1, h2, h3⟩ => ⟨hx, L', h1, h2, h3 _ hq⟩)

theorem COps.yield {d : Option Nat} {fo : Opd} {xs : List Opd} {cs : List COp} {l : Nat} {vs : List AV} {p : Prop} (hf : st.get fo = .v (.fn (.yield l) [] [])) (hv : rdL true st.get xs = some (vs, p)) (hp : p)
    (h : AYields P l vs st.M fun x M' => match x with
      | .ret v => COps ro P T esc cs Q ({ st with M := M' }.put d (.v v))
      | .panic v => Q (.panic v) { st with M := M' }) : COps ro P T esc ({ dst := d, grd := none, k := .callv fo xs } :: cs) Q st := by
  intro ops idxs hc
  obtain ⟨i, is, o, rfl, h1, h2, h3⟩ := hc.cons
  obtain ⟨k1, k2, k3⟩ := compOp_inv h2 (by intro o' e; cases e)
  simp only at k1 k2 k3
  obtain ⟨c, y, ho, hcal, hy, hxs⟩ := compK_callv k3
  refine AOps.yield h1 (compG_none k2) (args := vs) (l := l) ?_ (h.mono ?_)
  · intro B E F blk rw a w hr
    have hrep := rdL_rep hr (cXL_is hxs).1 (cXL_is hxs).2 hv hp
    have hfr := hr.opd hy
    rw [hf] at hfr
    obtain ⟨a', b', e1, e2, e3⟩ := Rep.fn_inv hfr
    have e2' : a' = [] := e2.nil_inv
    have e3' : b' = [] := e3.nil_inv
    subst e2'
    subst e3'
    refine ⟨c.args.map a.eval, ?_, by simpa using hrep⟩
    simp [execOp, ho, resolve, hcal, e1, Deferred.ofValue, invoke]
  · intro x M' hx
    cases x with
    | ret v =>
      rw [← k1]
      exact hx ops is h3
    | panic v => exact hx

theorem ACalls.ofM {f : FuncId} {fn : Func} {args : List AV} {M : Mem} {R : AEnd → Mem → Prop} (k : Nat) (cc : CC) (hf : P.funcs[f]? = some fn) (hb : fn.body.isSome = true) (hn : fn.ntmps - args.length = k) (hc : comp T esc (fn.body.getD .skip) = cc)
    (h : CWp none P T esc cc (FinM P fn R) { tmps := args.map .v ++ List.replicate k .junk, loc := [], rows := [], defs := [], M := M }) : ACalls P f args M R := by
  cases hbb : fn.body with
  | none => rw [hbb] at hb; cases hb
  | some c =>
    rw [hbb] at hc
    exact ACalls.of_wpM k hf hbb hn (h c hc)
end

/-- What a function does with the loop's body: calls it for one after another, until it says no. -/
def Iter (P : Program) (l : Nat) (R : Mem → Prop) : List (List AV) → Mem → Prop
  | [], M => R M
  | x :: xs, M => AYields P l x M fun e M' => (e = .ret (.bool true) ∧ Iter P l R xs M') ∨ (e = .ret (.bool false) ∧ R M')
end Go.Am
