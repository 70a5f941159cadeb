/- From the machine's answer to the claim's row: the world that meets the condition; what a call that answers true leaves. -/
import Derived.Test.YtmppnmffbmpcpaaDoorRows
import Derived.Test.YtmppnmffbmpcpaaDoorVmErr
import Derived.Test.YtmppnmffbmpcpaaDoorVmLaid
import Derived.ChangeSame
import Derived.ChangeVars
import Derived.JoinedOf
import Derived.RowKit
import Derived.RowKitTokens
import Derived.LaidLaws
import Derived.LaidHandle
import Derived.Stop.Joined
import Derived.Carry
set_option linter.unusedVariables false
set_option linter.unusedSimpArgs false
namespace Go.Vm
open Go.RowKit Go.Proofs

def isTrue : Option ARes → Bool
  | some (.ret (.v (.bool true)) _) => true
  | _ => false
theorem isTrue_eq {r : Option ARes} (h : isTrue r = true) : ∃ m, r = some (.ret (.v (.bool true)) m) := by
  unfold isTrue at h
  split at h
  · exact ⟨_, rfl⟩
  · cases h

theorem finish {E : Env} (he : EnvOk E) {W : World} {V : Nat → Value} (hi : Inv E W (g0 W V) [] W) {f : FuncId} {args : List AV} {vs : List Value} {n : Nat} (hr : RepL (g0 W V) args vs) (h : isTrue (acall E n f args []) = true) :
    Calls E.P f vs.toArray W fun e W' => e = .returned (.bool true) ∧ Below W.heap.size W W' := by
  obtain ⟨m, hm⟩ := isTrue_eq h
  refine Calls.mono (calls_good he n f args [] _ hm W _ W vs hi hr) fun e W' hp => ?_
  obtain ⟨v, g', rfl, _, h2, h3⟩ := hp
  simp only [Rep] at h3
  subst h3
  exact ⟨rfl, h2.below⟩

/-! ### A world that meets the condition -/
mutual
def dcells : DataW Unit → List Value
  | .lit x => [litVal x]
  | .agg ps => dcellsL ps
  | _ => []
def dcellsL : List (DataW Unit) → List Value
  | [] => []
  | d :: r => dcells d ++ dcellsL r
end
def errText : DataW Unit → Option (List UInt8)
  | .iface _ (.ptr (.agg [.lit (.string t)])) => some t
  | _ => none
def layAll (errT low : Nat) : List (Nat × DataW Unit) → Nat → Array Obj → Array Obj
  | [], _, h => h
  | (g, d) :: r, k, h => match errText d with
    | some _ => layAll errT low r (k + 1) (h.modify g fun | .cells _ t f => .cells #[.iface errT (.pointer (some ⟨low + k, 0, none⟩))] t f | o => o)
    | none => layAll errT low r k (h.modify g fun | .cells _ t f => .cells (dcells d).toArray t f | o => o)
noncomputable def low : Nat := (World.holding Tryd.prog default ⟨#[], #[], []⟩).heap.size
noncomputable def laidWorldOf (l : List (String × DataW Unit)) (os : Os) : World :=
  let w0 := World.holding Tryd.prog os ⟨((l.filterMap fun x => errText x.2).map fun t => .cells #[.string ⟨t.toArray⟩] 239).toArray, #[], []⟩
  { w0 with heap := layAll 214 low (l.map fun x => ((Tryd.prog.globalNamed x.1).getD 0, x.2)) 0 w0.heap }

theorem laidMetH_plain {P : Program} {l : List (String × DataW Unit)} {w : World} (hn : (l.filter fun x => x.2.handleName?.isSome) = []) : laidMetH P l w = laidMet P l w := by
  unfold laidMetH
  rw [hn]

/-! ### The program's tables -/
theorem own : ownKnob Tryd.prog.godebug = none := by kernel_rfl
theorem star : "*" ++ "errors.errorString" = "*errors.errorString" := by decide
theorem errTypes : ErrTypes Tryd.prog 30 214 239 9 :=
  ⟨⟨_, Tryd.underlying30⟩, fun u h => typeName_ptr_named (nm := "errors.errorString") (by rw [star]; kernel_rfl) (by kernel_rfl) (by decide) u (by rw [star]; exact h), Tryd.underlying214,
    ⟨_, Tryd.underlying239, rfl, rfl⟩, Tryd.underlying9, by kernel_rfl, by kernel_rfl⟩
theorem follows : Tryd.prog.follows .mixedOrders = true := by kernel_rfl
theorem names : (Tryd.prog.funcs.all fun fn => fn.name != "runtime.NumGoroutine") = true := by kernel_rfl
theorem names_ok (f : FuncId) (fn : Func) (h : Tryd.prog.funcs[f]? = some fn) : fn.name ≠ "runtime.NumGoroutine" := by
  obtain ⟨hl, he⟩ := Array.getElem?_eq_some_iff.1 h
  have := (Array.all_eq_true.1 names) f hl
  rw [he] at this
  simpa using this

def litsOf : DataW Unit → List Lit
  | .agg ps => ps.filterMap fun | .lit x => some x | _ => none
  | _ => []

/-- The machine over this program. -/
noncomputable def env (facts : List Fact) (arrs : List (Nat × DataW Unit)) (prims : FuncId → Option (ACall → List AV → AM → Option ARes)) : Env :=
  { P := Tryd.prog, glob := fun i => (arrs.find? fun x => x.1 == i).map fun x => (litsOf x.2).map litVal, sent := fun i => decide (i < 22), errT := 214, facts := facts,
    prim := fun f => if f = 47 then some (isPrim fun i => decide (i < 22)) else prims f, linear := fun _ => false, lit := fun _ => false }

theorem env_ok {facts : List Fact} {arrs : List (Nat × DataW Unit)} {prims : FuncId → Option (ACall → List AV → AM → Option ARes)}
    (hp : ∀ f p, prims f = some p → (∃ fn, Tryd.prog.funcs[f]? = some fn ∧ fn.body.isSome = true) ∧ ∀ call, CallOk (env facts arrs prims) call → CallOk (env facts arrs prims) fun f' args m => if f' = f then p call args m else none) : EnvOk (env facts arrs prims) := by
  refine ⟨follows, names_ok, fun f p h => ?_⟩
  dsimp only [env] at h
  split at h
  · rename_i he
    subst he
    obtain rfl := Option.some.inj h
    exact ⟨⟨_, Tryd.func47, by kernel_rfl⟩, isPrim_ok rfl rfl⟩
  · exact hp f p h
end Go.Vm
