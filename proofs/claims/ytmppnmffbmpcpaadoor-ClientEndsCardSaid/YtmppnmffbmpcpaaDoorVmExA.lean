/- The abstract machine: calls, frames, one operation in a frame; blocks that are made ahead of their time. -/
import Derived.Test.YtmppnmffbmpcpaaDoorVmOps
import Derived.LoopN
import Derived.Tactics
set_option linter.unusedVariables false
set_option linter.unusedSimpArgs false
namespace Go.Vm
open Go.RowKit

/-- What a call comes to. -/
def CallPost (E : Env) (w0 : World) (g : G) (res : ARes) (e : Ending) (w' : World) : Prop :=
  match res with
  | .ret a m' => ∃ v g', e = .returned v ∧ g.le g' ∧ Inv E w0 g' m' w' ∧ Rep g' a v
  | .pan x m' => ∃ g', e = .panicked [{ v := x, recovered := false }] ∧ g.le g' ∧ Inv E w0 g' m' w'

/-- A contract for calls holds. -/
def CallOk (E : Env) (call : ACall) : Prop :=
  ∀ f args m res, call f args m = some res → ∀ w0 g w vs, Inv E w0 g m w → RepL g args vs → Calls E.P f vs.toArray w (CallPost E w0 g res)

structure EnvOk (E : Env) : Prop where
  mixed : E.P.follows .mixedOrders = true
  names : ∀ (f : FuncId) (fn : Func), E.P.funcs[f]? = some fn → fn.name ≠ "runtime.NumGoroutine"
  prims : ∀ f p, E.prim f = some p → (∃ fn, E.P.funcs[f]? = some fn ∧ fn.body.isSome = true) ∧ ∀ call, CallOk E call → CallOk E fun f' args m => if f' = f then p call args m else none

/-- What a call of a function value goes to is a function with a body. -/
def Bodied (E : Env) (call : ACall) : Prop :=
  ∀ f args m res, call f args m = some res → ∃ fn, E.P.funcs[f]? = some fn ∧ fn.body.isSome = true

section
variable {E : Env} {w0 : World} {g : G} {m : AM} {w : World}

/-- A frame. -/
def FRep (g : G) (a : AF) (act : Act) : Prop := RepL g a act.tmps.toList ∧ act.defers = []

theorem FRep.mono {g' : G} (h : g.le g') {a : AF} {act : Act} (hr : FRep g a act) : FRep g' a act := ⟨RepL.mono h _ hr.1, hr.2⟩

theorem slot_rep {a : AF} {act : Act} (h : RepL g a act.tmps.toList) (t : Nat) : Rep g (a.getD t (.v undef)) (act.tmps.getD t undef) := by
  have hl := h.length
  simp only [Array.length_toList] at hl
  rw [List.getD_eq_getElem?_getD, Array.getD_eq_getD_getElem?]
  cases ha : a[t]? with
  | none =>
    have : act.tmps[t]? = none := by
      rw [List.getElem?_eq_none_iff] at ha
      rw [Array.getElem?_eq_none_iff]
      omega
    rw [this]
    simp only [Option.getD_none, Rep]
  | some x =>
    obtain ⟨v, hv, hr⟩ := h.get ha
    rw [Array.getElem?_toList] at hv
    rw [hv]
    exact hr

theorem eval_rep {a : AF} {act : Act} (h : FRep g a act) (x : Operand) : Rep g (aeval a x) (act.eval x) := by
  cases x with
  | tmp t => exact slot_rep h.1 t
  | const v => simp only [aeval, Act.eval, Rep]
  | global n => simp only [aeval, Act.eval, Rep]
  | func f => simp only [aeval, Act.eval, Rep]

theorem put_tmps (act : Act) (dst : Option Tmp) (v : Value) : (act.put dst v).tmps.toList = match dst with | some d => act.tmps.toList.set d v | none => act.tmps.toList := by
  cases dst <;> simp [Act.put]
theorem put_defers' (act : Act) (dst : Option Tmp) (v : Value) : (act.put dst v).defers = act.defers := by
  cases dst <;> simp [Act.put]
theorem put_size (act : Act) (dst : Option Tmp) (v : Value) : (act.put dst v).tmps.size = act.tmps.size := by
  cases dst <;> simp [Act.put]

theorem RepL.setOne {cs : List AV} {l : List Value} (h : RepL g cs l) {a : AV} {v : Value} (hr : Rep g a v) (d : Nat) : RepL g (cs.set d a) (l.set d v) :=
  .of_get (by simp [h.length]) fun j b u hb hu => by
    rw [List.getElem?_set] at hb hu
    split at hb
    · rename_i e
      subst e
      split at hb
      · rw [if_pos rfl, if_pos (by rw [← h.length]; assumption)] at hu
        obtain rfl := Option.some.inj hb
        obtain rfl := Option.some.inj hu
        exact hr
      · cases hb
    · rename_i hne
      rw [if_neg hne] at hu
      obtain ⟨u', hu', hr'⟩ := h.get hb
      rw [hu] at hu'
      obtain rfl := Option.some.inj hu'
      exact hr'

theorem FRep.put {a : AF} {act : Act} (h : FRep g a act) (dst : Option Tmp) {x : AV} {v : Value} (hr : Rep g x v) : FRep g (aput a dst x) (act.put dst v) := by
  refine ⟨?_, (put_defers' _ _ _).trans h.2⟩
  rw [put_tmps]
  cases dst with
  | none => exact h.1
  | some d => exact h.1.setOne hr d

theorem rep_bool {x : AV} {b : Bool} (h : Rep g x (.bool b)) : x = .v (.bool b) := by
  cases x <;> simp only [Rep] at h
  case v y => rw [h]
  case agg cs => obtain ⟨_, e, _⟩ := h; cases e
  case tup cs => obtain ⟨_, e, _⟩ := h; cases e
  case sl => obtain ⟨_, _, _, e, _⟩ := h; cases e
  case ref => obtain ⟨_, _, e, _⟩ := h; cases e
  case ep => obtain ⟨_, _, e, _⟩ := h; cases e
  case ptr => obtain ⟨_, e, _⟩ := h; cases e
  case mp => obtain ⟨_, e, _⟩ := h; cases e
  case fn => obtain ⟨_, _, e, _⟩ := h; cases e
  case u => obtain ⟨_, _, _, e⟩ := h; cases e
  case x i => exact absurd rfl (h.2.2.2 b)
  case sem p => exact absurd rfl ((p.scal h).2.2 b)

theorem yielded_rep {a : AF} {act : Act} (ops : Array Oper) (j : Nat) (h : ∀ t, (ops[j]?).bind (·.dst) = some t → (a[t]? = none ∧ act.tmps[t]? = none) ∨ ∃ x v, a[t]? = some x ∧ act.tmps[t]? = some v ∧ Rep g x v) :
    ayielded ops a j = yielded ops act.tmps j := by
  unfold ayielded yielded
  cases ht : (ops[j]?).bind (·.dst) with
  | none => rfl
  | some t =>
    simp only [Option.bind_some]
    rcases h t ht with ⟨h1, h2⟩ | ⟨x, v, h1, h2, h3⟩
    · rw [h1, h2]
    · rw [h1, h2]
      cases v with
      | bool b => rw [rep_bool h3]
      | _ =>
        cases x with
        | v y =>
          simp only [Rep] at h3
          subst h3
          rfl
        | _ => rfl

theorem FRep.yielded {a : AF} {act : Act} (h : FRep g a act) (ops : Array Oper) : ayielded ops a = Go.yielded ops act.tmps := by
  funext j
  refine yielded_rep (g := g) ops j fun t _ => ?_
  have hl := h.1.length
  simp only [Array.length_toList] at hl
  cases ha : a[t]? with
  | none =>
    refine .inl ⟨rfl, ?_⟩
    rw [List.getElem?_eq_none_iff] at ha
    rw [Array.getElem?_eq_none_iff]
    omega
  | some x =>
    obtain ⟨v, hv, hr⟩ := h.1.get ha
    rw [Array.getElem?_toList] at hv
    exact .inr ⟨x, v, rfl, hv, hr⟩

/-! ### One operation -/
theorem call_value {ρ : Operand → Value} {o : Oper} {c : Call} {f : Operand} (ho : o.op = .call c) (hc : c.callee = .value f) {k : FuncId} {first captured : Array Value}
    (hf : ρ f = .func (.func k) first captured) {fn : Func} (hk : E.P.funcs[k]? = some fn) (hn : fn.name ≠ "runtime.NumGoroutine") (hb : fn.body.isSome = true) (w : World) :
    (execOp ρ o).run E.P w = .ok (.enter k (first ++ c.args.map ρ ++ captured)) w := by
  obtain ⟨c0, hb0⟩ := Option.isSome_iff_exists.1 hb
  simp [execOp, ho, resolve, hc, hf, Deferred.ofValue, invoke, callFunc, program, Sem.run, hk, hn, hb0]

theorem Good.wp {o : Oper} {act : Act} {res : ARes} (h : Good E w0 g ((execOp act.eval o).run E.P w) res) {K : Act → World → Prop} {Q : Exit → Act → World → Prop}
    (hK : ∀ x m' v w' g', res = .ret x m' → g.le g' → Inv E w0 g' m' w' → Rep g' x v → K (act.put o.dst v) w')
    (hQ : ∀ x m' w' g', res = .pan x m' → g.le g' → Inv E w0 g' m' w' → Q (.panic [{ v := x, recovered := false }]) act w') : o.wp E.P act w K Q := by
  unfold Oper.wp
  cases res with
  | ret x m' =>
    obtain ⟨v, w', g', hr, h1, h2, h3⟩ := h
    rcases hr with hr | ⟨hr, rfl⟩
    · rw [hr]; exact hK x m' v w' g' rfl h1 h2 h3
    · rw [hr]; exact hK x m' undef w' g' rfl h1 h2 h3
  | pan x m' =>
    obtain ⟨w', g', hr, h1, h2⟩ := h
    rw [hr]
    exact hQ x m' w' g' rfl h1 h2

theorem aop_wp (he : EnvOk E) {call : ACall} (hcall : CallOk E call) (hbod : Bodied E call) (hi : Inv E w0 g m w) {fn : FuncId} {ρa : Operand → AV} {act : Act} {o : Oper} {res : ARes}
    (hρ : ∀ x ∈ o.op.operands, Rep g (ρa x) (act.eval x)) (h : aop E call fn ρa m o = some res) {K : Act → World → Prop} {Q : Exit → Act → World → Prop}
    (hK : ∀ x m' v w' g', res = .ret x m' → g.le g' → Inv E w0 g' m' w' → Rep g' x v → K (act.put o.dst v) w')
    (hQ : ∀ x m' w' g', res = .pan x m' → g.le g' → Inv E w0 g' m' w' → Q (.panic [{ v := x, recovered := false }]) act w') : o.wp E.P act w K Q := by
  cases hc : isFnCall o with
  | false => exact (aop_good hi hρ h hc).wp hK hQ
  | true =>
    unfold isFnCall at hc
    split at hc
    case h_2 => cases hc
    rename_i c hop
    split at hc
    case h_2 => cases hc
    rename_i f hcal
    have hf := hρ f (by simp [hop, Op.operands, Call.operands, hcal])
    have hargs : ∀ x ∈ c.args, Rep g (ρa x) (act.eval x) := fun x hx => hρ x (by simp [hop, Op.operands, Call.operands, hx])
    simp only [aop, hop, hcal] at h
    have key : ∀ (k : FuncId) (first captured : List AV) (fv cv : List Value), RepL g first fv → RepL g captured cv → act.eval f = .func (.func k) fv.toArray cv.toArray →
        call k (first ++ c.args.toList.map ρa ++ captured) m = some res → o.wp E.P act w K Q := by
      intro k first captured fv cv hfv hcv hfe hres
      obtain ⟨fd, hk, hb⟩ := hbod _ _ _ _ hres
      have hrun := call_value (E := E) (ρ := act.eval) hop hcal hfe hk (he.names _ _ hk) hb w
      unfold Oper.wp
      rw [hrun, Oper.upon_enter]
      have hrep : RepL g (first ++ c.args.toList.map ρa ++ captured) (fv ++ c.args.toList.map act.eval ++ cv) :=
        (hfv.append (fnlist_rep fun x hx => hargs x (by simpa using hx))).append hcv
      have := hcall _ _ _ _ hres w0 g w _ hi hrep
      rw [show (fv.toArray ++ c.args.map act.eval ++ cv.toArray) = (fv ++ c.args.toList.map act.eval ++ cv).toArray by simp]
      refine Calls.mono this fun e w' hp => ?_
      cases res with
      | ret x m' =>
        obtain ⟨v, g', rfl, h1, h2, h3⟩ := hp
        exact hK x m' v w' g' rfl h1 h2 h3
      | pan x m' =>
        obtain ⟨g', rfl, h1, h2⟩ := hp
        exact hQ x m' w' g' rfl h1 h2
    unfold acallVal at h
    split at h
    · rename_i k first captured hfv
      rw [hfv] at hf
      simp only [Rep] at hf
      exact key k (first.toList.map .v) (captured.toList.map .v) first.toList captured.toList (.of_vals _) (.of_vals _) (by simpa using hf) h
    · rename_i k first captured hfv
      rw [hfv] at hf
      simp only [Rep] at hf
      obtain ⟨x, z, h1, h2, h3⟩ := hf
      exact key k first captured x z h2 h3 h1 h
    · cases h
end
end Go.Vm
