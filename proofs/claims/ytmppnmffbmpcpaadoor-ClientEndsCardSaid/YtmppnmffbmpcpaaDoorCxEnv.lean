/- The symbolic layer over this program. -/
import Derived.Test.YtmppnmffbmpcpaaDoorCxMore
import Derived.Test.YtmppnmffbmpcpaaDoorVmErr
import Derived.Test.YtmppnmffbmpcpaaDoorProg
set_option linter.unusedVariables false
set_option linter.unusedSimpArgs false
namespace Go.Vm
open Go.RowKit Go.Proofs

/-- The errors that every row of the clients, the octets and the scripts lays. -/
def coreE (i : Nat) : Bool := i == 1 || i == 0 || i == 12 || i == 18
/-- The errors that are known: those, and those that 'gl' names behind 1000. -/
def sentE (gl : Nat → Option (List Value)) (i : Nat) : Bool := coreE i || (Nat.blt i 22 && (gl (1000 + i)).isSome)
/-- The machine over this program; 'gl': the package's arrays that are known. -/
noncomputable def EV (gl : Nat → Option (List Value)) : Env :=
  { P := Tryd.prog, glob := gl, sent := sentE gl, errT := 214, facts := [],
    prim := fun f => if f = 47 then some (isPrim (sentE gl)) else none, linear := fun _ => false, lit := fun f => f == 1000000 }
theorem ev_names : (Tryd.prog.funcs.all fun fn => fn.name != "runtime.NumGoroutine") = true := by kernel_rfl
theorem ev_ok {gl : Nat → Option (List Value)} : EnvOk (EV gl) := by
  refine ⟨by kernel_rfl, fun f fn h => ?_, fun f p h => ?_⟩
  · have h' : Tryd.prog.funcs[f]? = some fn := h
    obtain ⟨hl, he⟩ := Array.getElem?_eq_some_iff.1 h'
    have := (Array.all_eq_true.1 ev_names) f hl
    rw [he] at this
    simpa using this
  · dsimp only [EV] at h
    split at h
    · rename_i he
      subst he
      obtain rfl := Option.some.inj h
      exact ⟨⟨_, Tryd.func47, by kernel_rfl⟩, isPrim_ok rfl rfl⟩
    · cases h
end Go.Vm
