/- The symbolic layer: what code comes to, told by predicates on abstract frames and memories; one rule a step. Nothing is asked of any program. -/
import Derived.Test.YtmppnmffbmpcpaaDoorVmExF
set_option linter.unusedVariables false
set_option linter.unusedSimpArgs false
namespace Go.Vm
open Go.RowKit

/-- What stands in each slot. -/
abbrev Fr := Nat → AV
def upd (φ : Fr) (d : Nat) (x : AV) : Fr := fun t => if t = d then x else φ t
def fput (φ : Fr) (dst : Option Tmp) (x : AV) : Fr :=
  match dst with
  | some d => upd φ d x
  | none => φ
def ev (N : Nat) (φ : Fr) : Operand → AV
  | .tmp t => if t < N then φ t else .v undef
  | .const v => .v v
  | .global g => .v (.pointer (some ⟨g, 0, none⟩))
  | .func f => .v (.func (.func f) #[] #[])
def argF (args : List AV) : Fr := fun t => args.getD t (.v undef)
def noCall : ACall := fun _ _ _ => none

/-- What a call comes to. -/
inductive CR where
  | ret (x : AV)
  | pan (x : AV)

/-- What code comes to. -/
inductive CX where
  | normal | ret
  | exit (id : Nat)
  | pan (x : AV)

structure FR (N : Nat) (ds : List Deferred) (g : G) (φ : Fr) (act : Act) : Prop where
  size : act.tmps.size = N
  rep : ∀ (t : Nat) (v : Value), act.tmps[t]? = some v → Rep g (φ t) v
  defers : act.defers = ds

def XR (N : Nat) (ds : List Deferred) (g : G) (x : CX) (φ : Fr) (e : Exit) (act : Act) : Prop :=
  match x with
  | .normal => e = .normal ∧ FR N ds g φ act
  | .ret => e = .ret ∧ FR N ds g φ act
  | .exit id => e = .exit id ∧ FR N ds g φ act
  | .pan x => ∃ v, e = .panic [{ v := v, recovered := false }] ∧ Rep g x v ∧ act.defers = ds ∧ (ds = [] ∨ FR N ds g φ act)

def Post (E : Env) (w0 : World) (g : G) (N : Nat) (ds : List Deferred) (R : CX → Fr → AM → Prop) (e : Exit) (act : Act) (w : World) : Prop :=
  ∃ x φ m g', R x φ m ∧ g.le g' ∧ Inv E w0 g' m w ∧ XR N ds g' x φ e act

theorem Post.mono {E : Env} {w0 : World} {g g' : G} {N : Nat} {ds : List Deferred} {R R' : CX → Fr → AM → Prop} {e : Exit} {act : Act} {w : World} (hg : g.le g') (hR : ∀ x φ m, R x φ m → R' x φ m) (h : Post E w0 g' N ds R e act w) : Post E w0 g N ds R' e act w :=
  let ⟨x, φ, m, g2, h1, h2, h3, h4⟩ := h
  ⟨x, φ, m, g2, hR _ _ _ h1, hg.trans h2, h3, h4⟩

def joinR (K : Fr → AM → Prop) (R : CX → Fr → AM → Prop) : CX → Fr → AM → Prop
  | .normal, φ, m => K φ m
  | x, φ, m => R x φ m

/-- The operations 'l' of a region, in the order of the text, then K. -/
structure OpsJ (E : Env) (N : Nat) (ds : List Deferred) (ops : Array Oper) (l : List Oper) (φ : Fr) (m : AM) (K : Fr → AM → Prop) (R : CX → Fr → AM → Prop) : Prop where
  run : ∀ (w0 : World) (g : G) (act : Act) (w : World), Inv E w0 g m w → FR N ds g φ act → wpList E.P ops (Post E w0 g N ds (joinR K R)) l act w

/-- The items 'k', to the end. -/
structure RunJ (E : Env) (N : Nat) (ds : List Deferred) (k : List Item) (φ : Fr) (m : AM) (R : CX → Fr → AM → Prop) : Prop where
  run : ∀ (w0 : World) (g : G) (act : Act) (w : World), Inv E w0 g m w → FR N ds g φ act → ∀ (b : Frame) (k' : List Item) (cs : List Frame),
    ∃ e a' w', Post E w0 g N ds R e a' w' ∧ Arrives E.P (lone (b.at act (k ++ k')) cs w) b k' cs e a' w'

/-- One operation. -/
structure StepS (E : Env) (ρ : Operand → AV) (o : Oper) (m : AM) (S : CR → AM → Prop) : Prop where
  run : ∀ (w0 : World) (g : G) (act : Act) (w : World), Inv E w0 g m w → (∀ x ∈ o.op.operands, Rep g (ρ x) (act.eval x)) → ∀ (K : Act → World → Prop) (Q : Exit → Act → World → Prop),
    (∀ x m' v w' g', S (.ret x) m' → g.le g' → Inv E w0 g' m' w' → Rep g' x v → K (act.put o.dst v) w') →
    (∀ x m' v w' g', S (.pan x) m' → g.le g' → Inv E w0 g' m' w' → Rep g' x v → Q (.panic [{ v := v, recovered := false }]) act w') → o.wp E.P act w K Q

/-- What a call comes to. -/
def SpecPost (E : Env) (w0 : World) (g : G) (S : CR → AM → Prop) (e : Ending) (w' : World) : Prop :=
  ∃ r m' g', S r m' ∧ g.le g' ∧ Inv E w0 g' m' w' ∧ match r with
    | .ret x => ∃ v, e = .returned v ∧ Rep g' x v
    | .pan x => ∃ v, e = .panicked [{ v := v, recovered := false }] ∧ Rep g' x v
structure Spec (E : Env) (f : FuncId) (args : List AV) (m : AM) (S : CR → AM → Prop) : Prop where
  body : ∃ fn, E.P.funcs[f]? = some fn ∧ fn.body.isSome = true ∧ fn.name ≠ "runtime.NumGoroutine"
  run : ∀ (w0 : World) (g : G) (w : World) (vs : List Value), Inv E w0 g m w → RepL g args vs → Calls E.P f vs.toArray w (SpecPost E w0 g S)

section
variable {E : Env} {N : Nat} {ds : List Deferred}

/-! ### Frames -/
theorem FR.mono {g g' : G} (h : g.le g') {φ : Fr} {act : Act} (hr : FR N ds g φ act) : FR N ds g' φ act := ⟨hr.1, fun t v ht => Rep.mono h _ (hr.2 t v ht), hr.3⟩

theorem FR.eval {g : G} {φ : Fr} {act : Act} (h : FR N ds g φ act) (x : Operand) : Rep g (ev N φ x) (act.eval x) := by
  cases x with
  | tmp t =>
    simp only [ev, Act.eval]
    rw [Array.getD_eq_getD_getElem?]
    by_cases ht : t < N
    · rw [if_pos ht]
      obtain ⟨v, this⟩ : ∃ v, act.tmps[t]? = some v := ⟨_, Array.getElem?_eq_getElem (by rw [h.1]; exact ht)⟩
      rw [this]
      exact h.2 t _ this
    · rw [if_neg ht, Array.getElem?_eq_none (by rw [h.1]; exact Nat.not_lt.1 ht)]
      simp only [Option.getD_none, Rep]
  | const v => simp only [ev, Act.eval, Rep]
  | global n => simp only [ev, Act.eval, Rep]
  | func f => simp only [ev, Act.eval, Rep]

theorem FR.put {g : G} {φ : Fr} {act : Act} (h : FR N ds g φ act) (dst : Option Tmp) {x : AV} {v : Value} (hr : Rep g x v) : FR N ds g (fput φ dst x) (act.put dst v) := by
  refine ⟨(put_size _ _ _).trans h.1, fun t u ht => ?_, (put_defers' _ _ _).trans h.3⟩
  cases dst with
  | none => exact h.2 t u ht
  | some d =>
    simp only [Act.put, fput, upd] at ht ⊢
    rw [Array.getElem?_setIfInBounds] at ht
    by_cases hd : d = t
    · subst hd
      rw [if_pos rfl] at ht
      rw [if_pos rfl]
      split at ht
      · obtain rfl := Option.some.inj ht; exact hr
      · cases ht
    · rw [if_neg hd] at ht
      rw [if_neg (fun e => hd e.symm)]
      exact h.2 t u ht

/-- The frame as a list. -/
def frL (N : Nat) (φ : Fr) : AF := (List.range N).map φ
theorem FR.list {g : G} {φ : Fr} {act : Act} (h : FR N ds g φ act) : RepL g (frL N φ) act.tmps.toList :=
  .of_get (by simp [frL, h.1]) fun j a v ha hv => by
    simp only [frL, List.getElem?_map] at ha
    rw [Array.getElem?_toList] at hv
    have := (Array.getElem?_eq_some_iff.1 hv).1
    rw [List.getElem?_range (by rw [← h.1]; exact this)] at ha
    obtain rfl := Option.some.inj ha
    exact h.2 j v hv
theorem frL_ev (φ : Fr) : aeval (frL N φ) = ev N φ := by
  funext x
  cases x with
  | tmp t =>
    simp only [aeval, ev, frL]
    rw [List.getD_eq_getElem?_getD, List.getElem?_map]
    by_cases ht : t < N
    · rw [List.getElem?_range ht, if_pos ht]; rfl
    · rw [List.getElem?_eq_none (by simpa using ht), if_neg ht]; rfl
  | _ => rfl

/-- Another word for what stands in a slot. -/
theorem upd_self {φ : Fr} {t : Nat} : upd φ t (φ t) = φ := by
  funext s
  unfold upd
  split
  · rename_i e; rw [e]
  · rfl

/-! ### Items -/
theorem run_nil {φ : Fr} {m : AM} {R : CX → Fr → AM → Prop} (h : R .normal φ m) : RunJ E N ds [] φ m R :=
  ⟨fun w0 g act w hi hf b k' cs => ⟨.normal, act, w, ⟨.normal, φ, m, g, h, .refl g, hi, rfl, hf⟩, Steps.refl _ _⟩⟩

theorem run_of_wp {c : Code} {k : List Item} {φ : Fr} {m : AM} {R : CX → Fr → AM → Prop}
    (h : ∀ (w0 : World) (g : G) (act : Act) (w : World), Inv E w0 g m w → FR N ds g φ act → c.wp E.P (Post E w0 g N ds (joinR (fun φ m => RunJ E N ds k φ m R) fun x φ m => (∃ v, x = .pan v) ∧ R x φ m)) act w) :
    RunJ E N ds (.code c :: k) φ m R := by
  refine ⟨fun w0 g act w hi hf b k' cs => ?_⟩
  obtain ⟨e, a1, w1, ⟨x, φ1, m1, g1, hR, hle, hi1, hx⟩, harr⟩ := h w0 g act w hi hf b (k ++ k') cs
  cases x with
  | normal =>
    obtain ⟨rfl, hf1⟩ := hx
    obtain ⟨e2, a2, w2, hp, harr2⟩ := RunJ.run hR w0 g1 a1 w1 hi1 hf1 b k' cs
    exact ⟨e2, a2, w2, hp.mono hle (fun _ _ _ h => h), Arrives.of_steps harr harr2⟩
  | pan v =>
    have hx' := hx
    obtain ⟨u, rfl, _⟩ := hx
    exact ⟨_, a1, w1, ⟨.pan v, φ1, m1, g1, hR.2, hle, hi1, hx'⟩, harr⟩
  | ret => obtain ⟨⟨v, hv⟩, _⟩ := hR; cases hv
  | exit id => obtain ⟨⟨v, hv⟩, _⟩ := hR; cases hv

theorem run_region {id : Nat} {ops : Array Oper} {k : List Item} {φ : Fr} {m : AM} {R : CX → Fr → AM → Prop} (h : OpsJ E N ds ops ops.toList φ m (fun φ m => RunJ E N ds k φ m R) (fun x φ m => (∃ v, x = .pan v) ∧ R x φ m)) :
    RunJ E N ds (.code (.region id ops false) :: k) φ m R :=
  run_of_wp fun w0 g act w hi hf => wp_region_list (h.run w0 g act w hi hf)

theorem run_head {k k1 : List Item} {φ : Fr} {m : AM} {R : CX → Fr → AM → Prop} (h : RunJ E N ds k1 φ m R)
    (hs : ∀ (act : Act) (w : World) (b : Frame) (k' : List Item) (cs : List Frame), step E.P (lone (b.at act (k ++ k')) cs w) = .next (lone (b.at act (k1 ++ k')) cs w)) : RunJ E N ds k φ m R :=
  ⟨fun w0 g act w hi hf b k' cs => let ⟨e, a', w', hp, ha⟩ := h.run w0 g act w hi hf b k' cs; ⟨e, a', w', hp, .of_steps (.one (hs act w b k' cs)) ha⟩⟩

theorem run_skip {k : List Item} {φ : Fr} {m : AM} {R : CX → Fr → AM → Prop} (h : RunJ E N ds k φ m R) : RunJ E N ds (.code .skip :: k) φ m R := run_head h fun _ _ _ _ _ => step_skip
theorem run_label {l : Nat} {k : List Item} {φ : Fr} {m : AM} {R : CX → Fr → AM → Prop} (h : RunJ E N ds k φ m R) : RunJ E N ds (.code (.label l) :: k) φ m R := run_head h fun _ _ _ _ _ => step_label
theorem run_inBlock {id : Nat} {k : List Item} {φ : Fr} {m : AM} {R : CX → Fr → AM → Prop} (h : RunJ E N ds k φ m R) : RunJ E N ds (.inBlock id :: k) φ m R := run_head h fun _ _ _ _ _ => step_inBlock
theorem run_seq {x y : Code} {k : List Item} {φ : Fr} {m : AM} {R : CX → Fr → AM → Prop} (h : RunJ E N ds (.code x :: .code y :: k) φ m R) : RunJ E N ds (.code (.seq x y) :: k) φ m R := run_head h fun _ _ _ _ _ => step_seq
theorem run_block {id : Nat} {c : Code} {k : List Item} {φ : Fr} {m : AM} {R : CX → Fr → AM → Prop} (h : RunJ E N ds (.code c :: .inBlock id :: k) φ m R) : RunJ E N ds (.code (.block id c) :: k) φ m R := run_head h fun _ _ _ _ _ => step_block
theorem run_inLoop {c : Code} {k : List Item} {φ : Fr} {m : AM} {R : CX → Fr → AM → Prop} (h : RunJ E N ds (.code c :: .inLoop c :: k) φ m R) : RunJ E N ds (.inLoop c :: k) φ m R := run_head h fun _ _ _ _ _ => step_inLoop
theorem run_loop {c : Code} {k : List Item} {φ : Fr} {m : AM} {R : CX → Fr → AM → Prop} (h : RunJ E N ds (.code c :: .inLoop c :: k) φ m R) : RunJ E N ds (.code (.loop c) :: k) φ m R := run_head h fun _ _ _ _ _ => step_loop
theorem run_ret {k : List Item} {φ : Fr} {m : AM} {R : CX → Fr → AM → Prop} (h : R .ret φ m) : RunJ E N ds (.code .ret :: k) φ m R :=
  ⟨fun w0 g act w hi hf b k' cs => ⟨.ret, act, w, ⟨.ret, φ, m, g, h, .refl g, hi, rfl, hf⟩, _, .one step_ret⟩⟩
theorem exitTo_append {id : Nat} : ∀ {k k1 k' : List Item}, exitTo id k = some k1 → exitTo id (k ++ k') = some (k1 ++ k')
  | [], _, _, h => by simp [exitTo] at h
  | x :: k, k1, k', h => by
    cases x <;> simp only [exitTo, List.cons_append] at h ⊢ <;> first | exact exitTo_append h | skip
    split at h
    · rename_i he
      obtain rfl := Option.some.inj h
      rw [if_pos he]
    · rename_i he
      rw [if_neg he]
      exact exitTo_append h
theorem run_exit {id : Nat} {k k1 : List Item} {φ : Fr} {m : AM} {R : CX → Fr → AM → Prop} (hk : exitTo id k = some k1) (h : RunJ E N ds k1 φ m R) : RunJ E N ds (.code (.exit id) :: k) φ m R :=
  run_head h fun _ _ _ _ _ => step_exit (exitTo_append hk)
theorem run_cond {c : Operand} {x y : Code} {k : List Item} {φ : Fr} {m : AM} {R : CX → Fr → AM → Prop} {t : Bool} (hc : ev N φ c = .v (.bool t)) (h1 : t = true → RunJ E N ds (.code x :: k) φ m R) (h2 : t = false → RunJ E N ds (.code y :: k) φ m R) :
    RunJ E N ds (.code (.cond c x y) :: k) φ m R := by
  refine ⟨fun w0 g act w hi hf b k' cs => ?_⟩
  have he := hf.eval c
  rw [hc] at he
  simp only [Rep] at he
  cases t with
  | true =>
    obtain ⟨e, a', w', hp, ha⟩ := (h1 rfl).run w0 g act w hi hf b k' cs
    exact ⟨e, a', w', hp, .of_steps (.one (step_cond he)) ha⟩
  | false =>
    obtain ⟨e, a', w', hp, ha⟩ := (h2 rfl).run w0 g act w hi hf b k' cs
    exact ⟨e, a', w', hp, .of_steps (.one (step_cond he)) ha⟩

/-- Two ways of telling the frame. -/
theorem run_frame {k : List Item} {φ ψ : Fr} {m : AM} {R : CX → Fr → AM → Prop} (h : φ = ψ) (hr : RunJ E N ds k ψ m R) : RunJ E N ds k φ m R := h ▸ hr
theorem run_live {k : List Item} {φ : Fr} {m : AM} {R : CX → Fr → AM → Prop} (t : Nat) (hr : RunJ E N ds k (upd φ t (φ t)) m R) : RunJ E N ds k φ m R := by
  rw [upd_self] at hr; exact hr
theorem RunJ.mono {k : List Item} {φ : Fr} {m : AM} {R R' : CX → Fr → AM → Prop} (h : RunJ E N ds k φ m R) (hr : ∀ x φ m, R x φ m → R' x φ m) : RunJ E N ds k φ m R' :=
  ⟨fun w0 g act w hi hf b k' cs => let ⟨e, a', w', hp, ha⟩ := h.run w0 g act w hi hf b k' cs; ⟨e, a', w', hp.mono (.refl g) hr, ha⟩⟩
/-- A piece of code by itself, then the rest. -/
theorem run_cut {c : Code} {k : List Item} {φ : Fr} {m : AM} {R Q : CX → Fr → AM → Prop} (h : RunJ E N ds [.code c] φ m Q) (hn : ∀ φ m, Q .normal φ m → RunJ E N ds k φ m R) (hr : ∀ φ m, Q .ret φ m → R .ret φ m) (hp : ∀ x φ m, Q (.pan x) φ m → R (.pan x) φ m)
    (he : ∀ id φ m, ¬ Q (.exit id) φ m) : RunJ E N ds (.code c :: k) φ m R := by
  refine ⟨fun w0 g act w hi hf b k' cs => ?_⟩
  obtain ⟨e, a1, w1, ⟨x, φ1, m1, g1, hR, hle, hi1, hx⟩, harr⟩ := h.run w0 g act w hi hf b (k ++ k') cs
  cases x with
  | normal =>
    obtain ⟨rfl, hf1⟩ := hx
    obtain ⟨e2, a2, w2, hp2, harr2⟩ := (hn _ _ hR).run w0 g1 a1 w1 hi1 hf1 b k' cs
    exact ⟨e2, a2, w2, hp2.mono hle (fun _ _ _ h => h), Arrives.of_steps harr harr2⟩
  | ret =>
    obtain ⟨rfl, hf1⟩ := hx
    exact ⟨.ret, a1, w1, ⟨.ret, φ1, m1, g1, hr _ _ hR, hle, hi1, rfl, hf1⟩, harr⟩
  | exit id => exact absurd hR (he id _ _)
  | pan v =>
    have hx' := hx
    obtain ⟨u, rfl, _⟩ := hx
    exact ⟨_, a1, w1, ⟨.pan v, φ1, m1, g1, hp _ _ _ hR, hle, hi1, hx'⟩, harr⟩

/-! ### Operations -/
section
variable {ops : Array Oper} {rest : List Oper} {o : Oper} {φ : Fr} {m : AM} {K : Fr → AM → Prop} {R : CX → Fr → AM → Prop}
theorem ops_nil (h : K φ m) : OpsJ E N ds ops [] φ m K R := ⟨fun w0 g act w hi hf => ⟨.normal, φ, m, g, h, .refl g, hi, rfl, hf⟩⟩

theorem fr_yielded {g : G} {act : Act} (hf : FR N ds g φ act) {j t : Nat} {b : Bool} (hj : (ops[j]?).bind (·.dst) = some t) (hv : ev N φ (.tmp t) = .v (.bool b)) : yielded ops act.tmps j = some b := by
  have h := hf.eval (.tmp t)
  rw [hv] at h
  simp only [Rep, Act.eval] at h
  rw [Array.getD_eq_getD_getElem?] at h
  unfold yielded
  rw [hj, Option.bind_some]
  cases ha : act.tmps[t]? with
  | none => rw [ha] at h; simp [undef] at h
  | some u => rw [ha] at h; simp only [Option.getD_some] at h; rw [h]

/-- Is it wanted? -/
def Wants (N : Nat) (ops : Array Oper) (φ : Fr) (o : Oper) (y : Bool) : Prop :=
  match o.guard with
  | none => y = true
  | some (j, want) => ∃ t, (ops[j]?).bind (·.dst) = some t ∧ ((∃ b, ev N φ (.tmp t) = .v (.bool b) ∧ y = (b == want)) ∨ (ev N φ (.tmp t) = .v undef ∧ y = false))
theorem Wants.spec {g : G} {act : Act} (hf : FR N ds g φ act) {y : Bool} (h : Wants N ops φ o y) : Region.wanted o (yielded ops act.tmps) = y := by
  unfold Wants at h
  unfold Region.wanted
  split at h
  · rename_i hg
    rw [hg]; exact h.symm
  · rename_i j want hg
    obtain ⟨t, h1, ⟨b, h2, h3⟩ | ⟨h2, h3⟩⟩ := h
    · rw [hg]
      simp only
      rw [fr_yielded hf h1 h2, h3]
      cases b <;> cases want <;> rfl
    · rw [hg, h3]
      simp only
      have h := hf.eval (.tmp t)
      rw [h2] at h
      simp only [Rep, Act.eval] at h
      rw [Array.getD_eq_getD_getElem?] at h
      unfold yielded
      rw [h1, Option.bind_some]
      cases ha : act.tmps[t]? with
      | none => rfl
      | some u =>
        rw [ha] at h
        simp only [Option.getD_some] at h
        subst h
        rfl

theorem ops_step {S : CR → AM → Prop} (hs : StepS E (ev N φ) o m S) (hw : Wants N ops φ o true) (h : ∀ x m', S (.ret x) m' → OpsJ E N ds ops rest (fput φ o.dst x) m' K R) (hp : ∀ x m', S (.pan x) m' → R (.pan x) φ m') : OpsJ E N ds ops (o :: rest) φ m K R := by
  refine ⟨fun w0 g act w hi hf => ?_⟩
  unfold wpList
  rw [if_pos (hw.spec hf)]
  left
  refine hs.run w0 g act w hi (fun x _ => hf.eval x) _ _ (fun x m' v w' g' h1 h2 h3 h4 => ?_) fun x m' v w' g' h1 h2 h3 h4 => ?_
  · exact wpList_mono (fun e a w hq => Post.mono h2 (fun _ _ _ h => h) hq) _ _ _ ((h x m' h1).run w0 g' _ w' h3 ((hf.mono h2).put o.dst h4))
  · exact ⟨.pan x, φ, m', g', hp x m' h1, h2, h3, v, rfl, h4, hf.3, .inr (hf.mono h2)⟩
theorem ops_no (hw : Wants N ops φ o false) (h : OpsJ E N ds ops rest (fput φ o.dst (.v undef)) m K R) : OpsJ E N ds ops (o :: rest) φ m K R := by
  refine ⟨fun w0 g act w hi hf => ?_⟩
  unfold wpList
  rw [if_neg (by rw [hw.spec hf]; simp)]
  exact h.run w0 g _ w hi (hf.put o.dst (by simp only [Rep]))

theorem step_of_good {ρ : Operand → AV} {fn : FuncId} {res : ARes} (h : aop E noCall fn ρ m o = some res) (hc : isFnCall o = false) : StepS E ρ o m fun r n => match res with | .ret x m' => r = .ret x ∧ n = m' | .pan x m' => r = .pan (.v x) ∧ n = m' := by
  refine ⟨fun w0 g act w hi hρ KK QQ h1 h2 => ?_⟩
  refine (aop_good hi hρ h hc).wp (fun x m' v w' g' he hle hi' hr => ?_) (fun x m' w' g' he hle hi' => ?_)
  · subst he
    exact h1 x m' v w' g' ⟨rfl, rfl⟩ hle hi' hr
  · subst he
    exact h2 (.v x) m' x w' g' ⟨rfl, rfl⟩ hle hi' (by simp only [Rep])

/-- An operation that hands on. -/
theorem ops_ret {fn : FuncId} {x : AV} {m' : AM} (h : aop E noCall fn (ev N φ) m o = some (.ret x m')) (hc : isFnCall o = false) (hg : o.guard = none) (hk : OpsJ E N ds ops rest (fput φ o.dst x) m' K R) : OpsJ E N ds ops (o :: rest) φ m K R := by
  refine ops_step (step_of_good h hc) (by unfold Wants; rw [hg]) (fun y n hy => ?_) (fun y n hy => ?_)
  · obtain ⟨h1, rfl⟩ := hy
    obtain rfl := CR.ret.inj h1
    exact hk
  · obtain ⟨h1, _⟩ := hy
    cases h1
/-- .. behind a guard that lets it by. -/
theorem ops_yes {fn : FuncId} {x : AV} {m' : AM} {j t : Nat} {want b : Bool} (hg : o.guard = some (j, want)) (hj : (ops[j]?).bind (·.dst) = some t) (hv : ev N φ (.tmp t) = .v (.bool b)) (hb : b = want)
    (h : aop E noCall fn (ev N φ) m o = some (.ret x m')) (hc : isFnCall o = false) (hk : OpsJ E N ds ops rest (fput φ o.dst x) m' K R) : OpsJ E N ds ops (o :: rest) φ m K R := by
  refine ops_step (step_of_good h hc) (by unfold Wants; rw [hg]; exact ⟨t, hj, .inl ⟨b, hv, by rw [hb]; simp⟩⟩) (fun y n hy => ?_) (fun y n hy => ?_)
  · obtain ⟨h1, rfl⟩ := hy
    obtain rfl := CR.ret.inj h1
    exact hk
  · obtain ⟨h1, _⟩ := hy
    cases h1
theorem ops_not {j t : Nat} {want b : Bool} (hg : o.guard = some (j, want)) (hj : (ops[j]?).bind (·.dst) = some t) (hv : ev N φ (.tmp t) = .v (.bool b)) (hb : b = !want)
    (hk : OpsJ E N ds ops rest (fput φ o.dst (.v undef)) m K R) : OpsJ E N ds ops (o :: rest) φ m K R := by
  refine ops_no ?_ hk
  unfold Wants
  rw [hg]
  exact ⟨t, hj, .inl ⟨b, hv, by rw [hb]; cases want <;> rfl⟩⟩
/-- .. behind one that was left out itself. -/
theorem ops_und {j t : Nat} {want : Bool} (hg : o.guard = some (j, want)) (hj : (ops[j]?).bind (·.dst) = some t) (hv : ev N φ (.tmp t) = .v undef)
    (hk : OpsJ E N ds ops rest (fput φ o.dst (.v undef)) m K R) : OpsJ E N ds ops (o :: rest) φ m K R := by
  refine ops_no ?_ hk
  unfold Wants
  rw [hg]
  exact ⟨t, hj, .inr ⟨hv, rfl⟩⟩
/-- An operation that panics. -/
theorem ops_pan {fn : FuncId} {x : Value} {m' : AM} (h : aop E noCall fn (ev N φ) m o = some (.pan x m')) (hc : isFnCall o = false) (hg : o.guard = none) (hk : R (.pan (.v x)) φ m') : OpsJ E N ds ops (o :: rest) φ m K R := by
  refine ops_step (step_of_good h hc) (by unfold Wants; rw [hg]) (fun y n hy => ?_) (fun y n hy => ?_)
  · obtain ⟨h1, _⟩ := hy
    cases h1
  · obtain ⟨h1, rfl⟩ := hy
    obtain rfl := CR.pan.inj h1
    exact hk

/-- A call of a function value. -/
theorem step_call {ρ : Operand → AV} {c : Call} {f : Operand} {j : FuncId} {first captured : List AV} {S : CR → AM → Prop} (ho : o.op = .call c) (hcal : c.callee = .value f)
    (hf : ρ f = .fn (.func j) first captured ∨ (∃ a b, ρ f = .v (.func (.func j) a b) ∧ first = a.toList.map .v ∧ captured = b.toList.map .v))
    (hs : Spec E j (first ++ c.args.toList.map ρ ++ captured) m S) : StepS E ρ o m S := by
  refine ⟨fun w0 g act w hi hρ KK QQ h1 h2 => ?_⟩
  have hfr := hρ f (by simp [ho, Op.operands, Call.operands, hcal])
  have hargs : ∀ x ∈ c.args, Rep g (ρ x) (act.eval x) := fun x hx => hρ x (by simp [ho, Op.operands, Call.operands, hx])
  obtain ⟨fv, cv, hfv, hcv, hfe⟩ : ∃ fv cv, RepL g first fv ∧ RepL g captured cv ∧ act.eval f = .func (.func j) fv.toArray cv.toArray := by
    rcases hf with hf | ⟨a, b, hf, rfl, rfl⟩
    · rw [hf] at hfr
      simp only [Rep] at hfr
      obtain ⟨x, z, e, k1, k2⟩ := hfr
      exact ⟨x, z, k1, k2, e⟩
    · rw [hf] at hfr
      simp only [Rep] at hfr
      exact ⟨a.toList, b.toList, .of_vals _, .of_vals _, by simpa using hfr⟩
  obtain ⟨fd, hk, hb, hn⟩ := hs.body
  have hrun := call_value (E := E) (ρ := act.eval) ho hcal hfe hk hn hb w
  unfold Oper.wp
  rw [hrun, Oper.upon_enter]
  have hrep : RepL g (first ++ c.args.toList.map ρ ++ captured) (fv ++ c.args.toList.map act.eval ++ cv) :=
    (hfv.append (fnlist_rep fun x hx => hargs x (by simpa using hx))).append hcv
  have := hs.run w0 g w _ hi hrep
  rw [show (fv.toArray ++ c.args.map act.eval ++ cv.toArray) = (fv ++ c.args.toList.map act.eval ++ cv).toArray by simp]
  refine Calls.mono this fun e w' hp => ?_
  obtain ⟨r, m', g', hr, hle, hi', hrest⟩ := hp
  cases r with
  | ret x =>
    obtain ⟨v, rfl, hv⟩ := hrest
    exact h1 x m' v w' g' hr hle hi' hv
  | pan x =>
    obtain ⟨v, rfl, hv⟩ := hrest
    exact h2 x m' v w' g' hr hle hi' hv
theorem ops_call {j : FuncId} {args : Array Operand} {tys : Array TypeId} {dst : Option Tmp} {ty : TypeId} {pos : String} {after : Array Edge} {S : CR → AM → Prop} (hs : Spec E j (args.toList.map (ev N φ)) m S)
    (h : ∀ x m', S (.ret x) m' → OpsJ E N ds ops rest (fput φ dst x) m' K R) (hp : ∀ x m', S (.pan x) m' → R (.pan x) φ m') : OpsJ E N ds ops (⟨dst, .call ⟨.value (.func j), args, tys⟩, ty, pos, after, none⟩ :: rest) φ m K R :=
  ops_step (step_call (first := []) (captured := []) rfl rfl (.inr ⟨#[], #[], rfl, rfl, rfl⟩) (by simpa using hs)) rfl h hp
theorem ops_callv {f : Operand} {j : FuncId} {first captured : List AV} {args : Array Operand} {tys : Array TypeId} {dst : Option Tmp} {ty : TypeId} {pos : String} {after : Array Edge} {S : CR → AM → Prop} (hf : ev N φ f = .fn (.func j) first captured) (hs : Spec E j (first ++ args.toList.map (ev N φ) ++ captured) m S)
    (h : ∀ x m', S (.ret x) m' → OpsJ E N ds ops rest (fput φ dst x) m' K R) (hp : ∀ x m', S (.pan x) m' → R (.pan x) φ m') : OpsJ E N ds ops (⟨dst, .call ⟨.value f, args, tys⟩, ty, pos, after, none⟩ :: rest) φ m K R :=
  ops_step (step_call rfl rfl (.inl hf) hs) rfl h hp
end

/-! ### Functions -/
def resF (E : Env) (rs : List ResultVar) (N : Nat) (φ : Fr) (m : AM) : Option AV := aresults E rs (frL N φ) m

/-- What a body's end must say. -/
def BodyR (E : Env) (rs : List ResultVar) (N : Nat) (S : CR → AM → Prop) : CX → Fr → AM → Prop
  | .normal, φ, m | .ret, φ, m => ∃ x, resF E rs N φ m = some x ∧ S (.ret x) m
  | .pan x, _, m => S (.pan x) m
  | .exit _, _, _ => False

theorem aresults_good' {w0 : World} {g : G} {m : AM} {w : World} (hi : Inv E w0 g m w) {fd : Func} {a : AF} {act : Act} (hf : RepL g a act.tmps.toList) {x : AV} (h : aresults E fd.results.toList a m = some x) :
    ∃ v, (results fd act.tmps).run E.P w = .ok v w ∧ Rep g x v := by
  obtain ⟨v, h1, h2⟩ := aresults_good (act := { act with defers := [] }) hi ⟨hf, rfl⟩ h
  exact ⟨v, h1, h2⟩

theorem spec_body {f : FuncId} {fn : Func} {c : Code} {args : List AV} {m : AM} {S : CR → AM → Prop} {n : Nat} {rs : List ResultVar} (hname : fn.name ≠ "runtime.NumGoroutine") (hf : E.P.funcs[f]? = some fn) (hb : fn.body = some c) (hn : fn.ntmps = n) (hrs : fn.results.toList = rs) (ha' : Nat.ble args.length n = true)
    (h : RunJ E n [] [.code c] (argF args) m (BodyR E rs n S)) : Spec E f args m S := by
  have ha : args.length ≤ fn.ntmps := by rw [hn]; exact Nat.le_of_ble_eq_true ha'
  subst hn hrs
  refine ⟨⟨fn, hf, by rw [hb]; rfl, hname⟩, fun w0 g w vs hi hargs => calls_of_wp hf hb fun b k cs => ?_⟩
  have hfr : FR fn.ntmps [] g (argF args) { tmps := vs.toArray ++ Array.replicate (fn.ntmps - vs.toArray.size) undef, defers := [] } := by
    refine ⟨?_, fun t v ht => ?_, rfl⟩
    · have := hargs.length
      simp
      omega
    · simp only [argF]
      rw [List.getD_eq_getElem?_getD]
      rw [Array.getElem?_append] at ht
      split at ht
      · rename_i hlt
        simp only [List.getElem?_toArray] at ht
        obtain ⟨a, ha', hr⟩ := hargs.get' ht
        rw [ha']
        exact hr
      · rename_i hge
        rw [Array.getElem?_replicate] at ht
        split at ht
        · obtain rfl := Option.some.inj ht
          rw [List.getElem?_eq_none (by have := hargs.length; simp at hge; omega)]
          simp only [Option.getD_none, Rep]
        · cases ht
  obtain ⟨e, a', w', ⟨x, φ, m', g', hR, hle, hi', hx⟩, harr⟩ := h.run w0 g _ w hi hfr b k cs
  refine ⟨e, a', w', ?_, harr⟩
  cases x with
  | normal =>
    obtain ⟨rfl, hf'⟩ := hx
    obtain ⟨y, hy, hs⟩ := hR
    obtain ⟨v, h1, h2⟩ := aresults_good' hi' hf'.list hy
    exact ⟨hf'.3, v, h1, .ret y, m', g', hs, hle, hi', v, rfl, h2⟩
  | ret =>
    obtain ⟨rfl, hf'⟩ := hx
    obtain ⟨y, hy, hs⟩ := hR
    obtain ⟨v, h1, h2⟩ := aresults_good' hi' hf'.list hy
    exact ⟨hf'.3, v, h1, .ret y, m', g', hs, hle, hi', v, rfl, h2⟩
  | exit id => exact hR.elim
  | pan v =>
    obtain ⟨u, rfl, h1, h2, _⟩ := hx
    exact ⟨h2, .pan v, m', g', hR, hle, hi', u, rfl, h1⟩

theorem Spec.mono {f : FuncId} {args : List AV} {m : AM} {S S' : CR → AM → Prop} (h : Spec E f args m S) (hs : ∀ r m', S r m' → S' r m') : Spec E f args m S' :=
  ⟨h.1, fun w0 g w vs hi ha => Calls.mono (h.2 w0 g w vs hi ha) fun e w' ⟨r, m', g', h1, h2⟩ => ⟨r, m', g', hs _ _ h1, h2⟩⟩

/-- What the machine runs is a contract. -/
theorem Spec.of_call (he : EnvOk E) {n : Nat} {f : FuncId} {args : List AV} {m m' : AM} {x : AV} (h : acall E n f args m = some (.ret x m')) : Spec E f args m fun r n => r = .ret x ∧ n = m' := by
  obtain ⟨fn, hf, hb⟩ := acall_bodied he n f args m _ h
  refine ⟨⟨fn, hf, hb, he.names f fn hf⟩, fun w0 g w vs hi ha => Calls.mono (calls_good he n f args m _ h w0 g w vs hi ha) fun e w' hp => ?_⟩
  obtain ⟨v, g', rfl, h1, h2, h3⟩ := hp
  exact ⟨.ret x, m', g', ⟨rfl, rfl⟩, h1, h2, v, rfl, h3⟩
end
end Go.Vm
