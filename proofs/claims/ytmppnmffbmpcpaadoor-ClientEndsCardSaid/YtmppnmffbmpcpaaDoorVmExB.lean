/- The abstract machine: regions in the order of the text, the code around them, calls. The regions that draw their order come as a hypothesis here. -/
import Derived.Test.YtmppnmffbmpcpaaDoorVmExA
set_option linter.unusedVariables false
set_option linter.unusedSimpArgs false
namespace Go.Vm
open Go.RowKit

/-- What the code comes to. -/
def XPost (E : Env) (w0 : World) (g : G) (r : AX × AF × AM) (e : Exit) (act : Act) (w : World) : Prop :=
  ∃ g', g.le g' ∧ Inv E w0 g' r.2.2 w ∧ match r.1 with
    | .normal => e = .normal ∧ FRep g' r.2.1 act
    | .ret => e = .ret ∧ FRep g' r.2.1 act
    | .exit id => e = .exit id ∧ FRep g' r.2.1 act
    | .pan x => e = .panic [{ v := x, recovered := false }] ∧ act.defers = []

theorem XPost.mono {E : Env} {w0 : World} {g g' : G} (h : g.le g') {r : AX × AF × AM} {e : Exit} {act : Act} {w : World} (hp : XPost E w0 g' r e act w) : XPost E w0 g r e act w :=
  let ⟨g2, h1, h2, h3⟩ := hp
  ⟨g2, h.trans h1, h2, h3⟩

/-- Regions that draw their order. -/
def DrawOk (E : Env) (call : ACall) : Prop :=
  ∀ fn ops a m r, aregion E call fn ops true a m = some r → ∀ w0 g act w id, Inv E w0 g m w → FRep g a act → (Code.region id ops true).wp E.P (XPost E w0 g r) act w

section
variable {E : Env} {w0 : World}

theorem wpList_mono {P : Program} {ops : Array Oper} {Q Q' : Exit → Act → World → Prop} (hq : ∀ e a w, Q e a w → Q' e a w) : ∀ (l : List Oper) (a : Act) (w : World), wpList P ops Q l a w → wpList P ops Q' l a w
| [], a, w, h => hq _ _ _ h
| o :: rest, a, w, h => by
  unfold wpList at h ⊢
  split
  · rename_i hw
    rw [if_pos hw] at h
    rcases h with h | ⟨h1, a0, w0, h2⟩
    · left
      unfold Oper.wp at h ⊢
      generalize (execOp a.eval o).run P w = res at h ⊢
      cases res with
      | ok n w' =>
        cases n <;> simp only [Oper.upon] at h ⊢ <;> first
          | exact wpList_mono hq rest _ _ h
          | (refine Calls.mono h fun e w'' hp => ?_
             cases e with
             | returned v => exact wpList_mono hq rest _ _ hp
             | panicked c => exact hq _ _ _ hp
             | outgrown => exact let ⟨a1, w1, h3⟩ := hp; ⟨a1, w1, hq _ _ _ h3⟩)
          | exact Rows.mono h fun v w'' hp => wpList_mono hq rest _ _ hp
      | halt x w' => cases x <;> simp only [Oper.upon] at h ⊢ <;> exact hq _ _ _ h
    · exact .inr ⟨h1, a0, w0, hq _ _ _ h2⟩
  · rename_i hw
    rw [if_neg hw] at h
    exact wpList_mono hq rest _ _ h

theorem aops_good (he : EnvOk E) {call : ACall} (hcall : CallOk E call) (hbod : Bodied E call) {fn : FuncId} {ops : Array Oper} : ∀ (l : List Oper) {a : AF} {m : AM} {r : AX × AF × AM}, aops E call fn ops l a m = some r →
    ∀ {g : G} {act : Act} {w : World}, Inv E w0 g m w → FRep g a act → wpList E.P ops (XPost E w0 g r) l act w
  | [], a, m, r, h, g, act, w, hi, hf => by
    simp only [aops, Option.some.injEq] at h
    subst h
    exact ⟨g, .refl g, hi, rfl, hf⟩
  | o :: rest, a, m, r, h, g, act, w, hi, hf => by
    simp only [aops] at h
    rw [hf.yielded] at h
    unfold wpList
    split at h
    · rename_i hw
      rw [if_pos hw]
      left
      cases hres : aop E call fn (aeval a) m o with
      | none => rw [hres] at h; cases h
      | some res =>
        rw [hres] at h
        refine aop_wp he hcall hbod hi (fun x _ => eval_rep hf x) hres ?_ ?_
        · rintro x m' v w' g' rfl h1 h2 h3
          simp only at h
          have hgood := aops_good he hcall hbod rest h h2 ((hf.mono h1).put o.dst h3)
          exact wpList_mono (fun e a w hp => XPost.mono h1 hp) _ _ _ hgood
        · rintro x m' w' g' rfl h1 h2
          simp only [Option.some.injEq] at h
          subst h
          exact ⟨g', h1, h2, rfl, hf.2⟩
    · rename_i hw
      rw [if_neg hw]
      exact aops_good he hcall hbod rest h hi (hf.put o.dst (by simp only [Rep]))

theorem rounds_mono {P : Program} {c : Code} {Q Q' : Exit → Act → World → Prop} (hq : ∀ e a w, Q e a w → Q' e a w) : ∀ (n : Nat) (a : Act) (w : World), Code.rounds P c Q n a w → Code.rounds P c Q' n a w
| 0, _, _, h => h.elim
| n + 1, a, w, h => by
  rw [rounds_succ] at h ⊢
  refine Code.wp_mono (fun e a' w' hp => ?_) h
  cases e with
  | normal => exact rounds_mono hq n _ _ hp
  | _ => exact hq _ _ _ hp

theorem aexec_good (he : EnvOk E) {call : ACall} (hcall : CallOk E call) (hbod : Bodied E call) (hdraw : DrawOk E call) {fn : FuncId} : ∀ (n : Nat),
    (∀ (c : Code) {a : AF} {m : AM} {r : AX × AF × AM}, aexec E call fn n c a m = some r → ∀ {g : G} {act : Act} {w : World}, Inv E w0 g m w → FRep g a act → c.wp E.P (XPost E w0 g r) act w) ∧
    (∀ (b : Code) {a : AF} {m : AM} {r : AX × AF × AM}, aexec E call fn n (.loop b) a m = some r → ∀ {g : G} {act : Act} {w : World}, Inv E w0 g m w → FRep g a act → Code.rounds E.P b (XPost E w0 g r) n act w)
  | 0 => ⟨fun c a m r h => by simp [aexec] at h, fun c a m r h => by simp [aexec] at h⟩
  | n + 1 => by
    have ih := aexec_good he hcall hbod hdraw (fn := fn) n
    have hloop : ∀ (b : Code) {a : AF} {m : AM} {r : AX × AF × AM}, aexec E call fn (n + 1) (.loop b) a m = some r → ∀ {g : G} {act : Act} {w : World}, Inv E w0 g m w → FRep g a act → Code.rounds E.P b (XPost E w0 g r) (n + 1) act w := by
      intro b a m r h g act w hi hf
      rw [rounds_succ]
      simp only [aexec] at h
      split at h
      · rename_i a' m' hb
        refine Code.wp_mono (fun e act' w' hp => ?_) (ih.1 b hb hi hf)
        obtain ⟨g', h1, h2, rfl, h3⟩ := hp
        exact rounds_mono (fun _ _ _ hp => XPost.mono h1 hp) n _ _ (ih.2 b h h2 h3)
      · rename_i hne
        refine Code.wp_mono (fun e act' w' hp => ?_) (ih.1 b h hi hf)
        obtain ⟨x, a', m'⟩ := r
        cases x with
        | normal => exact (hne _ _ h).elim
        | _ =>
          obtain ⟨g', h1, h2, rfl, h3⟩ := hp
          exact ⟨g', h1, h2, rfl, h3⟩
    refine ⟨?_, hloop⟩
    intro c a m r h g act w hi hf
    cases c with
    | skip =>
      simp only [aexec, Option.some.injEq] at h
      subst h
      exact wp_skip ⟨g, .refl g, hi, rfl, hf⟩
    | label l =>
      simp only [aexec, Option.some.injEq] at h
      subst h
      exact wp_label ⟨g, .refl g, hi, rfl, hf⟩
    | region id ops draw =>
      simp only [aexec] at h
      cases draw with
      | true => exact hdraw _ _ _ _ _ h _ _ _ _ _ hi hf
      | false =>
        simp only [aregion, Bool.false_eq_true, if_false] at h
        exact wp_region_list (aops_good he hcall hbod _ h hi hf)
    | seq x y =>
      simp only [aexec] at h
      split at h
      · rename_i a' m' hx
        refine wp_seq (Code.wp_mono (fun e act' w' hp => ?_) (ih.1 x hx hi hf))
        obtain ⟨g', h1, h2, rfl, h3⟩ := hp
        exact Code.wp_mono (fun _ _ _ hp => XPost.mono h1 hp) (ih.1 y h h2 h3)
      · rename_i hne
        refine wp_seq (Code.wp_mono (fun e act' w' hp => ?_) (ih.1 x h hi hf))
        obtain ⟨q, a', m'⟩ := r
        cases q with
        | normal => exact (hne _ _ h).elim
        | _ =>
          obtain ⟨g', h1, h2, rfl, h3⟩ := hp
          exact ⟨g', h1, h2, rfl, h3⟩
    | cond c x y =>
      simp only [aexec] at h
      split at h
      case h_2 => cases h
      rename_i t ht
      have hc := eval_rep hf c
      rw [ht] at hc
      simp only [Rep] at hc
      cases t with
      | true => exact wp_cond_true hc (ih.1 x h hi hf)
      | false => exact wp_cond_false hc (ih.1 y h hi hf)
    | block id b =>
      simp only [aexec] at h
      split at h
      · rename_i id' a' m' hb
        refine wp_block (Code.wp_mono (fun e act' w' hp => ?_) (ih.1 b hb hi hf))
        obtain ⟨g', h1, h2, rfl, h3⟩ := hp
        simp only [Exit.inBlock]
        split at h
        · rename_i heq
          obtain rfl := Option.some.inj h
          rw [if_pos heq]
          exact ⟨g', h1, h2, rfl, h3⟩
        · rename_i hneq
          obtain rfl := Option.some.inj h
          rw [if_neg hneq]
          exact ⟨g', h1, h2, rfl, h3⟩
      · rename_i hne
        refine wp_block (Code.wp_mono (fun e act' w' hp => ?_) (ih.1 b h hi hf))
        obtain ⟨q, a', m'⟩ := r
        cases q with
        | exit id' => exact (hne _ _ _ h).elim
        | _ =>
          obtain ⟨g', h1, h2, rfl, h3⟩ := hp
          exact ⟨g', h1, h2, rfl, h3⟩
    | loop b => exact wp_loop_rounds _ (hloop b h hi hf)
    | exit id =>
      simp only [aexec, Option.some.injEq] at h
      subst h
      exact wp_exit ⟨g, .refl g, hi, rfl, hf⟩
    | ret =>
      simp only [aexec, Option.some.injEq] at h
      subst h
      exact wp_ret ⟨g, .refl g, hi, rfl, hf⟩
    | _ => simp [aexec] at h

def resVar (tmps : Array Value) : ResultVar → Sem Value
  | .tmp t => pure (tmps.getD t undef)
  | .cell a t => do loadVar t (← asAddr (tmps.getD a undef))

theorem results_eq (fd : Func) (tmps : Array Value) : results fd tmps = (do
    let vs ← fd.results.mapM (resVar tmps)
    pure (if h : vs.size = 1 then vs[0] else .tuple vs)) := by
  unfold results
  congr 1

theorem resVars_run {P : Program} {w : World} {tmps : Array Value} : ∀ {rs : List ResultVar} {vs : List Value}, (rs.mapM (resVar tmps)).run P w = .ok vs w → (rs.toArray.mapM (resVar tmps)).run P w = .ok vs.toArray w := by
  intro rs vs h
  rw [List.mapM_toArray, Sem.run_map, h]
  rfl

theorem aresults_good {g : G} {m : AM} {w : World} (hi : Inv E w0 g m w) {fd : Func} {a : AF} {act : Act} (hf : FRep g a act) {x : AV} (h : aresults E fd.results.toList a m = some x) :
    ∃ v, (results fd act.tmps).run E.P w = .ok v w ∧ Rep g x v := by
  unfold aresults at h
  simp only [Option.map_eq_some_iff] at h
  obtain ⟨l, hl, hx⟩ := h
  have key : ∀ (rs : List ResultVar) (l : List AV), rs.mapM (aresult E a m) = some l → ∃ vs, (rs.mapM (resVar act.tmps)).run E.P w = .ok vs w ∧ RepL g l vs := by
    intro rs
    induction rs with
    | nil =>
      intro l hl
      simp only [List.mapM_nil] at hl
      obtain rfl := Option.some.inj hl
      exact ⟨[], by simp, .nil⟩
    | cons r rs ih =>
      intro l hl
      rw [List.mapM_cons] at hl
      simp only [Option.bind_eq_bind, Option.bind_eq_some_iff] at hl
      obtain ⟨y, hy, s, hs, hl⟩ := hl
      obtain rfl := Option.some.inj hl
      obtain ⟨vs, hv, hrep⟩ := ih s hs
      have hone : ∃ u, (resVar act.tmps r).run E.P w = .ok u w ∧ Rep g y u := by
        cases r with
        | tmp t =>
          simp only [aresult, Option.some.injEq] at hy
          subst hy
          exact ⟨_, by simp only [resVar, Sem.run_pure], slot_rep hf.1 t⟩
        | cell s t =>
          simp only [aresult] at hy
          obtain ⟨ad, v, h0, h1, h2⟩ := load_run hi hy (slot_rep hf.1 s)
          exact ⟨v, by simp only [resVar, h0, asAddr, Sem.run_bind, Sem.run_pure, Result.andThen_ok, h1], h2⟩
      obtain ⟨u, hu, hur⟩ := hone
      exact ⟨u :: vs, by rw [List.mapM_cons]; simp only [Sem.run_bind, hu, Result.andThen_ok, hv, Sem.run_pure], .cons hur hrep⟩
  obtain ⟨vs, hv, hrep⟩ := key _ _ hl
  have hv' := resVars_run hv
  rw [Array.toArray_toList] at hv'
  refine ⟨if h : vs.toArray.size = 1 then vs.toArray[0] else .tuple vs.toArray, ?_, ?_⟩
  · rw [results_eq]
    simp only [Sem.run_bind, hv', Result.andThen_ok, Sem.run_pure]
  · have hlen := hrep.length
    subst hx
    clear hl hv hv' key
    match l, vs, hrep, hlen with
    | [], [], hrep, _ =>
      simp only [List.size_toArray, List.length_nil, Nat.zero_ne_one, dite_false, Rep]
      exact ⟨_, rfl, hrep⟩
    | [y], [v], hrep, _ =>
      obtain ⟨v', s, he, h2, h3⟩ := hrep.cons_inv
      obtain ⟨rfl, rfl⟩ := List.cons.inj he
      simpa using h2
    | y :: z :: l, v :: u :: vs, hrep, _ =>
      simp only [List.size_toArray, List.length_cons, Nat.add_eq_right, Nat.add_eq_zero_iff, Nat.succ_ne_self, and_false, dite_false, Rep]
      exact ⟨_, rfl, hrep⟩

theorem acall_bodied (he : EnvOk E) : ∀ n, Bodied E (acall E n)
  | 0 => fun f args m res h => by simp [acall] at h
  | n + 1 => fun f args m res h => by
    simp only [acall] at h
    split at h
    · rename_i p hp
      exact (he.prims f p hp).1
    · split at h
      · rename_i fd hfd
        split at h
        · rename_i c hc
          exact ⟨fd, hfd, by simp [hc]⟩
        · cases h
      · cases h

theorem rep_undefs {g : G} : ∀ n, RepL g (List.replicate n (.v undef)) (List.replicate n undef)
  | 0 => .nil
  | n + 1 => .cons (by simp only [Rep]) (rep_undefs n)

theorem acall_good (he : EnvOk E) (hdraw : ∀ call, CallOk E call → Bodied E call → DrawOk E call) : ∀ n, CallOk E (acall E n)
  | 0 => fun f args m res h => by simp [acall] at h
  | n + 1 => fun f args m res h w0 g w vs hi hargs => by
    have ih := acall_good he hdraw n
    simp only [acall] at h
    split at h
    · rename_i p hp
      exact (he.prims f p hp).2 _ ih f args m res (by show (if f = f then _ else none) = _; rw [if_pos rfl]; exact h) w0 g w vs hi hargs
    · split at h
      case h_2 => cases h
      rename_i fd hfd
      split at h
      case h_2 => cases h
      rename_i c hc
      refine calls_of_wp hfd hc ?_
      have hf : FRep g (args ++ List.replicate (fd.ntmps - args.length) (.v undef)) { tmps := vs.toArray ++ Array.replicate (fd.ntmps - vs.toArray.size) undef, defers := [] } := by
        refine ⟨?_, rfl⟩
        simp only [Array.toList_append, Array.toList_replicate]
        rw [show vs.toArray.size = args.length by simp [hargs.length]]
        exact hargs.append (rep_undefs _)
      split at h
      · rename_i a m' hx
        simp only [Option.map_eq_some_iff] at h
        obtain ⟨x, hx', rfl⟩ := h
        refine Code.wp_mono (fun e act' w' hp => ?_) ((aexec_good he ih (acall_bodied he n) (hdraw _ ih (acall_bodied he n)) n).1 c hx hi hf)
        obtain ⟨g', h1, h2, rfl, h3⟩ := hp
        obtain ⟨v, k1, k2⟩ := aresults_good h2 h3 hx'
        exact ⟨h3.2, v, k1, v, g', rfl, h1, h2, k2⟩
      · rename_i a m' hx
        simp only [Option.map_eq_some_iff] at h
        obtain ⟨x, hx', rfl⟩ := h
        refine Code.wp_mono (fun e act' w' hp => ?_) ((aexec_good he ih (acall_bodied he n) (hdraw _ ih (acall_bodied he n)) n).1 c hx hi hf)
        obtain ⟨g', h1, h2, rfl, h3⟩ := hp
        obtain ⟨v, k1, k2⟩ := aresults_good h2 h3 hx'
        exact ⟨h3.2, v, k1, v, g', rfl, h1, h2, k2⟩
      · rename_i x a m' hx
        obtain rfl := Option.some.inj h
        refine Code.wp_mono (fun e act' w' hp => ?_) ((aexec_good he ih (acall_bodied he n) (hdraw _ ih (acall_bodied he n)) n).1 c hx hi hf)
        obtain ⟨g', h1, h2, rfl, h3⟩ := hp
        exact ⟨h3, g', rfl, h1, h2⟩
      · cases h
end
end Go.Vm
