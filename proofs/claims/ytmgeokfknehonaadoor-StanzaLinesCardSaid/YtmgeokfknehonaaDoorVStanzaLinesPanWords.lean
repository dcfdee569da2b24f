/- Words of this claim for calls that panic: a call whose callee panics, as one step of a walk. Plain theorems. -/
import Derived.Test.YtmgeokfknehonaaDoorVStanzaLinesWords
import Derived.Test.YtmgeokfknehonaaDoorVStanzaLinesLast
import Derived.Defers
import Derived.Recover
namespace Go.Proofs.YtmgeokfknehonaaDoorW.PrintWords
open Go.RowKit Go.Proofs.YtmgeokfknehonaaDoorW.PrintLast
variable {P : Program} {ops : Array Oper} {Q : Exit → Act → World → Prop}
theorem goesP_ {rest : List Oper} {oi : Oper} {a : Act} {w : World} (hg : oi.guard = none) {f : FuncId} {fn : Func} {as : Array Operand} {ts : Array TypeId} (hf : P.funcs[f]? = some fn) (hname : (fn.name == "runtime.NumGoroutine") = false) (hb : fn.body.isSome = true) (args : Array Value)
    (hop : oi.op = .call { callee := .value (.func f), args := as, argTypes := ts }) (hargs : as.map a.eval = args)
    (h : Calls P f args w fun e w' => ∃ ch, e = .panicked ch ∧ Q (.panic ch) a w') : wpList P ops Q (oi :: rest) a w := by
  refine wpList_plain hg fun K hK => ?_
  have he := enters_ hf hname hb args w
  have hrun : (execOp a.eval oi).run P w = .ok (.enter f args) w := by
    unfold execOp
    simp [hop, resolve, Deferred.ofValue, invoke, Act.eval, hargs, he]
  unfold Oper.wp
  rw [hrun, Oper.upon_enter]
  refine h.mono fun e w'' hh => ?_
  obtain ⟨ch, rfl, hq⟩ := hh
  exact hq

theorem below_on {w W w2 : World} (k : Below W.heap.size W w2) (h : Below w.heap.size w W) : Below w.heap.size w w2 := below_step h k
/-! Results some of which lie in variables in memory: of one cell, too. -/
theorem run_isAgg_one {t : TypeId} {d : TypeDesc} (h : P.underlying t = some d) (hd : (match d with | .struct _ | .array _ _ => true | _ => false) = false) (w : World) : (isAgg t).run P w = .ok false w := by
  have h' := run_underlying (w := w) h
  unfold isAgg
  simp only [Sem.run_bind, h', Result.andThen_ok]
  cases d <;> first | rfl | cases hd
inductive ValsS (P : Program) (tmps : Array Value) (w : World) : List ResultVar → List Value → Prop where
  | nil : ValsS P tmps w [] []
  | tmp {u : Tmp} {rs : List ResultVar} {vs : List Value} (h : ValsS P tmps w rs vs) : ValsS P tmps w (.tmp u :: rs) (tmps.getD u undef :: vs)
  | cell {p : Tmp} {ty : TypeId} {rs : List ResultVar} {vs : List Value} (g : Nat) (t : TypeId) (cs : Array Value) (fr : Nat × Nat) (d : TypeDesc)
      (hp : tmps.getD p undef = .pointer (some ⟨g, 0, none⟩)) (hg : w.heap[g]? = some (.cells cs t fr))
      (hu : P.underlying ty = some d) (hd : (match d with | .struct _ | .array _ _ => true | _ => false) = true) (hi : (P.info? ty).map (·.size) = some cs.size)
      (h : ValsS P tmps w rs vs) : ValsS P tmps w (.cell p ty :: rs) (.agg cs :: vs)
  | one {p : Tmp} {ty : TypeId} {rs : List ResultVar} {vs : List Value} (g : Nat) (t : TypeId) (v : Value) (fr : Nat × Nat) (d : TypeDesc)
      (hp : tmps.getD p undef = .pointer (some ⟨g, 0, none⟩)) (hg : w.heap[g]? = some (.cells #[v] t fr))
      (hu : P.underlying ty = some d) (hd : (match d with | .struct _ | .array _ _ => true | _ => false) = false)
      (h : ValsS P tmps w rs vs) : ValsS P tmps w (.cell p ty :: rs) (v :: vs)
section
variable {tmps : Array Value} {w : World}
theorem cell_of_one {g : Nat} {t : TypeId} {v : Value} {fr : Nat × Nat} (hg : w.heap[g]? = some (.cells #[v] t fr)) : w.cell? ⟨g, 0, none⟩ = some v := by
  simp [World.cell?, hg]
theorem valsS_run {rs : List ResultVar} {vs : List Value} (hv : ValsS P tmps w rs vs) (f : ResultVar → Sem Value) (hf : ∀ u, f (.tmp u) = pure (tmps.getD u undef)) (hc : ∀ a t, f (.cell a t) = (do loadVar t (← asAddr (tmps.getD a undef)))) :
    (rs.mapM f).run P w = .ok vs w := by
  induction hv with
  | nil => simp
  | tmp h ih => simp [List.mapM_cons, hf, ih]
  | cell g t cs fr d hp hg hu hd hi h ih =>
    rw [List.mapM_cons, hc, hp]
    simp [asAddr, run_loadVar_row w g t _ cs fr d hg hu hd hi, ih]
  | one g t v fr d hp hg hu hd h ih =>
    rw [List.mapM_cons, hc, hp]
    have hl : (Sem.load Mode.plain ⟨g, 0, none⟩ Sem.pure).run P w = .ok v w := by simp only [Sem.run, cell_of_one hg]
    simp [asAddr, loadVar, run_isAgg_one hu hd, load, hl, ih]
theorem resultsS_list {fn : Func} {rs : List ResultVar} {vs : List Value} (h : fn.results = rs.toArray) (hl : vs.length ≠ 1) (hv : ValsS P tmps w rs vs) : (results fn tmps).run P w = .ok (.tuple vs.toArray) w := by
  unfold results
  rw [h, List.mapM_toArray]
  simp only [Sem.run_bind, Sem.run_map]
  rw [valsS_run hv]
  · simp [hl]
  · intro u
    rfl
  · intro a t
    rfl
theorem resultsS_single {fn : Func} {r : ResultVar} {v : Value} (h : fn.results = #[r]) (hv : ValsS P tmps w [r] [v]) : (results fn tmps).run P w = .ok v w := by
  unfold results
  rw [show fn.results = [r].toArray from h, List.mapM_toArray]
  simp only [Sem.run_bind, Sem.run_map]
  rw [valsS_run hv]
  · simp
  · intro u
    rfl
  · intro a t
    rfl
/-- Behind the last deferred call of a frame that returns. -/
theorem leaves_nil {fn : Func} {R : Ending → World → Prop} {v : Value} (h : (results fn tmps).run P w = .ok v w) (hr : R (.returned v) w) : Leaves P fn tmps R [] .returning w := ⟨v, h, hr⟩
end
end Go.Proofs.YtmgeokfknehonaaDoorW.PrintWords
