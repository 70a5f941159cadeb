/- The law ClientDeaf, its row: whatever the number and the message, it answers true; the package's variables stand as the row lays them. -/
import Derived.Test.YtmppnmffbmpcpaaDoorLawD
import Derived.Test.YtmppnmffbmpcpaaDoorOpnM
import Derived.Test.YtmppnmffbmpcpaaDoorVmEnd
import Derived.Test.YtmppnmffbmpcpaaDoorTie
import Derived.SevenTiedAt
import Derived.Carry
set_option linter.unusedVariables false
set_option linter.unusedSimpArgs false
namespace Go.Vm
open Go.RowKit Go.Proofs
/-- A row lays the errors that are asked. -/
noncomputable def sentOkE (l : List (String × DataW Unit)) (es : List Nat) : Bool :=
  es.all fun i => (List.range l.length).any fun k => match l[k]? with
    | some (n, d) => isErr d && Tryd.prog.globalNamed n == some i && (Tryd.prog.globals[i]?).map (·.type) == some 30
    | none => false
theorem sentOkE_spec {l : List (String × DataW Unit)} {es : List Nat} (h : sentOkE l es = true) : ∀ i ∈ es, ∃ (k : Nat) (n : String) (d : DataW Unit), l[k]? = some (n, d) ∧ isErr d = true ∧ Tryd.prog.globalNamed n = some i ∧ (Tryd.prog.globals[i]?).map (·.type) = some 30 := by
  intro i hi
  have h1 := List.all_eq_true.1 h i hi
  obtain ⟨k, _, hk⟩ := List.any_eq_true.1 h1
  split at hk
  · rename_i n d hd
    simp only [Bool.and_eq_true, beq_iff_eq] at hk
    exact ⟨k, n, d, hd, hk.1.1, hk.1.2, hk.2⟩
  · cases hk
/-- The four. -/
abbrev coreL4 : List Nat := [1, 0, 12, 18]
theorem coreE_mem {i : Nat} (h : coreE i = true) : i ∈ coreL4 := by
  simp only [coreE, Bool.or_eq_true, beq_iff_eq] at h
  simp only [coreL4, List.mem_cons, List.mem_nil_iff, or_false]
  rcases h with ((h | h) | h) | h
  · exact .inl h
  · exact .inr (.inl h)
  · exact .inr (.inr (.inl h))
  · exact .inr (.inr (.inr h))

/-- What a law's contract says of its call in a world. -/
theorem Pure.law {E : Env} {W : World} {V : Nat → Value} (hi : Inv E W (g0 W V) [] W) {f : FuncId} {args : List AV} {vs : List Value} (hp : Pure E f args (.ret (.v (.bool true)))) (hr : RepL (g0 W V) args vs) :
    Calls E.P f vs.toArray W fun e W' => e = .returned (.bool true) ∧ Below W.heap.size W W' := by
  refine Calls.mono ((hp []).2 W _ W vs hi hr) fun e W' ⟨r, m', g', ⟨h1, h2⟩, _, h4, h5⟩ => ?_
  subst h1
  obtain ⟨v, rfl, hv⟩ := h5
  simp only [Rep] at hv
  subst hv
  exact ⟨rfl, h4.below⟩
end Go.Vm
namespace Go.Proofs.YtmppnmffbmpcpaaDoor
open Go.RowKit Go.Vm Go.ChangeShapes Go.WideShapes

theorem deafSent : sentOkE Rows.clientDeafRow.laid coreL4 = true := by kernel_rfl
theorem deafInv {V : Nat → Value} {W : World} (hL : laidMet Tryd.prog Rows.clientDeafRow.laid W) : Inv (EV glW) W (g0 W V) [] W := by
  refine Inv.begin (E := EV glW) (fun f hf => by cases hf) (sent_of_laid (E := EV glW) hL errTypes (fun i hi => ?_)) fun i cs hg off v hv => ?_
  · refine sentOkE_spec deafSent i (coreE_mem ?_)
    have h1 : sentE glW i = true := hi
    unfold sentE glW at h1
    rw [Bool.or_eq_true] at h1
    rcases h1 with h1 | h1
    · exact h1
    · rw [if_neg (by omega)] at h1
      simp at h1
  · have hg' : glW i = some cs := hg
    unfold glW at hg'
    split at hg'
    · rename_i he
      subst he
      obtain rfl := Option.some.inj hg'
      exact arr_in_memory (P := Tryd.prog) hL (k := 5) (n := "cartage/message.words") (t := 203) (e := 9) (m := 11) rfl (by kernel_rfl) (by kernel_rfl) (by kernel_rfl) (by kernel_rfl) (vs := litsOf Rows.laid_cartage_message_words) rfl off v hv
    · cases hg'

theorem deaf_law (id : Int) (M : Msg) {vm : Value} {V : Nat → Value} (W : World) (hL : laidMet Tryd.prog Rows.clientDeafRow.laid W) (hm : Rep (g0 W V) (.agg (msgA M)) vm) :
    Calls Tryd.prog 8 #[.int .i64 id, vm] W fun e W' => e = .returned (.bool true) ∧ Below W.heap.size W W' :=
  Pure.law (deafInv hL) (vs := [.int .i64 id, vm]) (deaf_ok glW_ok alive21_ok id M) (.cons (by simp only [Rep]) (.cons hm .nil))
end Go.Proofs.YtmppnmffbmpcpaaDoor
