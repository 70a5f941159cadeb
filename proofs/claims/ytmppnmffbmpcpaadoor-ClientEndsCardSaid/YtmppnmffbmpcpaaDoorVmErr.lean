/- errors.Is where both are errors of package-level variables: walked in Go's own text. -/
import Derived.Test.YtmppnmffbmpcpaaDoorProg
import Derived.Test.YtmppnmffbmpcpaaDoorVmExF
import Derived.WalkKit
import Derived.LaidEql
import Derived.Stop.Asserts
import Derived.RowKitTokens
set_option linter.unusedVariables false
set_option linter.unusedSimpArgs false
namespace Go.Vm
open Go.RowKit Go.Extern.Stop Go.Stop Go.Extern Go.Proofs

theorem isTypeOf (v : Value) (w : World) : (Extern.ReflectliteType.typeOf #[.iface 214 v]).run Tryd.prog w = .ok (.iface 156 (.agg #[.pointer (some ⟨28, 214, none⟩)])) w := by kernel_rfl
theorem isComparable (w : World) : (Extern.ReflectliteType.method (fun t => do Rtype.noPackHeld "Comparable" t; pure (.bool (← typeInfo t).comparable)) #[.agg #[.pointer (some ⟨28, 214, none⟩)]]).run Tryd.prog w = .ok (.bool true) w := by kernel_rfl
theorem callComparable (w : World) : (callFunc 158 #[.agg #[.pointer (some ⟨28, 214, none⟩)]]).run Tryd.prog w = .ok (.value (.bool true)) w := by
  have h := @run_callFunc_extern Tryd.prog 158 _ (Extern.ReflectliteType.method fun t => do Rtype.noPackHeld "Comparable" t; pure (.bool (← typeInfo t).comparable)) Tryd.func158 (by kernel_rfl) (by kernel_rfl) (by kernel_rfl) (by kernel_rfl)
  rw [h, isComparable]
  rfl
theorem isMethodComparable (v : Value) (w : World) : (Go.method 351 156 v "Comparable").run Tryd.prog w = .ok (158, v) w := by kernel_rfl
theorem isComp : (Tryd.prog.info? 214).map (·.comparable) = some true := by kernel_rfl
theorem isSize : (Tryd.prog.info? 239).map (·.size) = some 1 := by kernel_rfl
theorem noIsE (v : Value) (xT : TypeId) (w : World) : (Instr.typeAssert (.iface 214 v) xT 158 true).run Tryd.prog w = .ok (.tuple #[.nilIface, .bool false]) w := run_typeAssert_lacksB Tryd.underlying158 (by kernel_rfl) (by kernel_rfl) v xT w
theorem noUnwrapE (v : Value) (xT : TypeId) (w : World) : (Instr.typeAssert (.iface 214 v) xT 161 true).run Tryd.prog w = .ok (.tuple #[.nilIface, .bool false]) w := run_typeAssert_lacksB Tryd.underlying161 (by kernel_rfl) (by kernel_rfl) v xT w
theorem noUnwrapsE (v : Value) (xT : TypeId) (w : World) : (Instr.typeAssert (.iface 214 v) xT 162 true).run Tryd.prog w = .ok (.tuple #[.nilIface, .bool false]) w := run_typeAssert_lacksB Tryd.underlying162 (by kernel_rfl) (by kernel_rfl) v xT w

theorem is_same (a : Addr) (w : World) :
    Calls Tryd.prog 47 #[.iface 214 (.pointer (some a)), .iface 214 (.pointer (some a))] w fun e w' => e = .returned (.bool true) ∧ w' = w := by
  obtain ⟨i, hi, hcmp⟩ := Option.map_eq_some_iff.1 isComp
  obtain ⟨j, hj, hjs⟩ := Option.map_eq_some_iff.1 isSize
  have h8 := @run_callFunc_extern Tryd.prog 71 _ Extern.ReflectliteType.typeOf Tryd.func71 (by kernel_rfl) (by kernel_rfl) (by kernel_rfl) (by kernel_rfl)
  have h32 := callComparable
  have tT := isTypeOf
  have mR := isMethodComparable
  have heq := run_eql_iface_ptr_same (P := Tryd.prog) w a Tryd.underlying30 Tryd.underlying214 hi hcmp hj
  go_enter Tryd.func47, Tryd.ntmps47
  go_wp2
  refine wp_loop_rounds 1 ?_
  rw [rounds_succ]
  go_wp2
  go_ret
  exact ⟨rfl, rfl⟩

theorem is_other (a b : Addr) (ca cb : Array Value) (ta tb : TypeId) (w : World) (hne : a ≠ b) (ha : w.heap[a.block]? = some (.cells ca ta (0, 0))) (hb : w.heap[b.block]? = some (.cells cb tb (0, 0))) :
    Calls Tryd.prog 47 #[.iface 214 (.pointer (some a)), .iface 214 (.pointer (some b))] w fun e w' => e = .returned (.bool false) ∧ w' = w := by
  obtain ⟨i, hi, hcmp⟩ := Option.map_eq_some_iff.1 isComp
  obtain ⟨j, hj, hjs⟩ := Option.map_eq_some_iff.1 isSize
  have h8 := @run_callFunc_extern Tryd.prog 71 _ Extern.ReflectliteType.typeOf Tryd.func71 (by kernel_rfl) (by kernel_rfl) (by kernel_rfl) (by kernel_rfl)
  have h32 := callComparable
  have tT := isTypeOf
  have mR := isMethodComparable
  have nE := noIsE
  have uE := noUnwrapE
  have vE := noUnwrapsE
  have heq := run_eql_iface_ptr_other (P := Tryd.prog) w Tryd.underlying30 Tryd.underlying214 hi hcmp hj (by rw [hjs]; decide) hne ha hb
  go_enter Tryd.func47, Tryd.ntmps47
  go_wp2
  refine wp_loop_rounds 1 ?_
  rw [rounds_succ]
  go_wp2
  go_ret
  exact ⟨rfl, rfl⟩

theorem is_nil (b : Addr) (w : World) :
    Calls Tryd.prog 47 #[.nilIface, .iface 214 (.pointer (some b))] w fun e w' => e = .returned (.bool false) ∧ w' = w := by
  have hn := run_eql_iface_nil_left (P := Tryd.prog) w 214 (.pointer (some b)) Tryd.underlying30
  go_enter Tryd.func47, Tryd.ntmps47
  go_wp2
  go_ret
  exact ⟨rfl, rfl⟩

/-- The contract of errors.Is, for the machine. -/
def isPrim (sent : Nat → Bool) (_ : ACall) (args : List AV) (m : AM) : Option ARes :=
  match args with
  | [.u i, .u j] => if sent i && sent j then some (.ret (.v (.bool (i == j))) m) else none
  | [.v .nilIface, .u j] => if sent j then some (.ret (.v (.bool false)) m) else none
  | _ => none

theorem Inv.heapOf {E : Env} {w0 w : World} {g : G} {m : AM} (hi : Inv E w0 g m w) {b : Nat} {o : Obj} (hb : b < w0.heap.size) (h : w0.heap[b]? = some o) : w.heap[b]? = some o := (hi.below.block b hb).trans h

theorem isPrim_ok {E : Env} (hP : E.P = Tryd.prog) (ht : E.errT = 214) : ∀ call, CallOk E call → CallOk E fun f' args m => if f' = 47 then isPrim E.sent call args m else none := by
  intro call hc f args m res h w0 g w vs hi hargs
  dsimp only at h
  split at h
  case isFalse => cases h
  rename_i hf
  subst hf
  unfold isPrim at h
  split at h
  case h_3 => cases h
  case h_2 =>
    rename_i j
    split at h
    case isFalse => cases h
    rename_i hs
    obtain rfl := Option.some.inj h
    obtain ⟨x, s, rfl, hx, hr⟩ := hargs.cons_inv
    obtain ⟨y, s, rfl, hy, hr⟩ := hr.cons_inv
    obtain rfl := hr.nil_inv
    simp only [Rep] at hx hy
    obtain ⟨rfl, _⟩ := hy
    obtain ⟨b, cb, tb, eb, _⟩ := hi.sent.ptr j hs
    rw [hP, hx, eb, ht]
    refine Calls.mono (is_nil b w) fun e w' hp => ?_
    obtain ⟨rfl, rfl⟩ := hp
    exact ⟨_, g, rfl, .refl g, hi, by simp only [Rep]⟩
  rename_i i j
  split at h
  case isFalse => cases h
  rename_i hs
  simp only [Bool.and_eq_true] at hs
  obtain rfl := Option.some.inj h
  obtain ⟨x, s, rfl, hx, hr⟩ := hargs.cons_inv
  obtain ⟨y, s, rfl, hy, hr⟩ := hr.cons_inv
  obtain rfl := hr.nil_inv
  simp only [Rep] at hx hy
  obtain ⟨rfl, _⟩ := hx
  obtain ⟨rfl, _⟩ := hy
  obtain ⟨a, ca, ta, ea, la, ha⟩ := hi.sent.ptr i hs.1
  obtain ⟨b, cb, tb, eb, lb, hb⟩ := hi.sent.ptr j hs.2
  rw [ht] at ea eb
  rw [hP]
  by_cases he : i = j
  · subst he
    rw [ea]
    refine Calls.mono (is_same a w) fun e w' hp => ?_
    obtain ⟨rfl, rfl⟩ := hp
    exact ⟨_, g, rfl, .refl g, hi, by simp only [Rep, beq_self_eq_true]⟩
  · have hne : a ≠ b := fun e => he (hi.sent.apart i j hs.1 hs.2 (by rw [ea, eb, e]))
    rw [ea, eb]
    refine Calls.mono (is_other a b ca cb ta tb w hne (hi.heapOf la ha) (hi.heapOf lb hb)) fun e w' hp => ?_
    obtain ⟨rfl, rfl⟩ := hp
    exact ⟨_, g, rfl, .refl g, hi, by simp [Rep, he]⟩
end Go.Vm
