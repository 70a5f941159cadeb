/- The abstract machine: all operations together. -/
import Derived.Test.YtmppnmffbmpcpaaDoorVmOpF
set_option linter.unusedVariables false
set_option linter.unusedSimpArgs false
namespace Go.Vm
open Go.RowKit
section
variable {E : Env} {w0 : World} {g : G} {m : AM} {w : World}

/-- What stands for something other than nil is a value of that kind. -/
theorem nonNil_rep {d : TypeDesc} {x : AV} {v : Value} (h1 : isOf d x = true) (h2 : nonNil x = true) (hx : Rep g x v) :
    (∃ e a n c, d = .slice e ∧ v = .slice (some a) n c) ∨ (∃ e a, d = .pointer e ∧ v = .pointer (some a)) ∨ (∃ k e r, d = .map k e ∧ v = .map (some r)) ∨ (∃ p r b f x y, d = .func p r b ∧ v = .func f x y) ∨ (∃ ms t p, d = .interface ms ∧ v = .iface t (.pointer (some p))) := by
  cases x with
  | sl cells es n cap own =>
    simp only [Rep] at hx
    obtain ⟨A, c, l, rfl, _, _, _, _, hl, hk, ho⟩ := hx
    cases d <;> simp [isOf] at h1
    left
    simp only [nonNil, Bool.or_eq_true, Bool.not_eq_true', List.isEmpty_eq_false_iff] at h2
    rcases h2 with h2 | h2
    · obtain ⟨t, ht⟩ := Option.isSome_iff_exists.1 h2
      obtain ⟨ad, ti, rfl, _⟩ := ho t ht
      exact ⟨_, _, _, _, rfl, rfl⟩
    · have : 0 < l.length := by rw [← hl.length]; exact List.length_pos_iff.2 h2
      obtain ⟨ad, rfl, _⟩ := hk 0 l[0] (List.getElem?_eq_getElem this)
      exact ⟨_, _, _, _, rfl, rfl⟩
  | ref i off es n cap =>
    simp only [Rep] at hx
    obtain ⟨ti, c, rfl, _⟩ := hx
    cases d <;> simp [isOf] at h1
    exact .inl ⟨_, _, _, _, rfl, rfl⟩
  | ptr i off =>
    simp only [Rep] at hx
    obtain ⟨ti, rfl, _⟩ := hx
    cases d <;> simp [isOf] at h1
    exact .inr (.inl ⟨_, _, rfl, rfl⟩)
  | ep cells =>
    simp only [Rep] at hx
    obtain ⟨ad, l, rfl, _⟩ := hx
    cases d <;> simp [isOf] at h1
    exact .inr (.inl ⟨_, _, rfl, rfl⟩)
  | mp i =>
    simp only [Rep] at hx
    obtain ⟨ti, rfl, _⟩ := hx
    cases d <;> simp [isOf] at h1
    exact .inr (.inr (.inl ⟨_, _, _, rfl, rfl⟩))
  | fn f a b =>
    simp only [Rep] at hx
    obtain ⟨p, q, rfl, _⟩ := hx
    cases d <;> simp [isOf] at h1
    exact .inr (.inr (.inr (.inl ⟨_, _, _, _, _, _, rfl, rfl⟩)))
  | u i =>
    simp only [Rep] at hx
    obtain ⟨_, t, p, rfl⟩ := hx
    cases d <;> simp [isOf] at h1
    exact .inr (.inr (.inr (.inr ⟨_, _, _, rfl, rfl⟩)))
  | _ => cases d <;> simp [isOf] at h1

theorem nil_rep {d : TypeDesc} {x : AV} {v : Value} (h1 : isNilOf d x = true) (hx : Rep g x v) :
    (∃ e n c, d = .slice e ∧ v = .slice none n c) ∨ (∃ e, d = .pointer e ∧ v = .pointer none) ∨ (∃ k e, d = .map k e ∧ v = .map none) ∨ (∃ p r b, d = .func p r b ∧ v = .nilFunc) ∨ (∃ ms, d = .interface ms ∧ v = .nilIface) := by
  unfold isNilOf at h1
  split at h1
  · simp only [Rep] at hx
    subst hx
    cases d <;> simp at h1
    exact .inl ⟨_, _, _, rfl, rfl⟩
  · simp only [Rep] at hx
    subst hx
    cases d <;> simp at h1
    exact .inr (.inl ⟨_, rfl, rfl⟩)
  · simp only [Rep] at hx
    subst hx
    cases d <;> simp at h1
    exact .inr (.inr (.inl ⟨_, _, rfl, rfl⟩))
  · simp only [Rep] at hx
    subst hx
    cases d <;> simp at h1
    exact .inr (.inr (.inr (.inl ⟨_, _, _, rfl, rfl⟩)))
  · simp only [Rep] at hx
    subst hx
    cases d <;> simp at h1
    exact .inr (.inr (.inr (.inr ⟨_, rfl, rfl⟩)))
  · cases h1

theorem eqIn_slice_l {P : Program} {w : World} {t : TypeId} (e : TypeId) (n c n' c' : Nat) (a : Addr) (hu : P.underlying t = some (.slice e)) (d : Nat) : (Op.equalIn (d + 1) t (.slice none n c) (.slice (some a) n' c')).run P w = .ok false w := by simp [Op.equalIn, run_underlying hu]
theorem eqIn_slice_r {P : Program} {w : World} {t : TypeId} (e : TypeId) (n c n' c' : Nat) (a : Addr) (hu : P.underlying t = some (.slice e)) (d : Nat) : (Op.equalIn (d + 1) t (.slice (some a) n' c') (.slice none n c)).run P w = .ok false w := by simp [Op.equalIn, run_underlying hu]
theorem eqIn_pointer_l {P : Program} {w : World} {t : TypeId} (e : TypeId) (a : Addr) (hu : P.underlying t = some (.pointer e)) (d : Nat) : (Op.equalIn (d + 1) t (.pointer none) (.pointer (some a))).run P w = .ok false w := by simp [Op.equalIn, run_underlying hu]
theorem eqIn_pointer_r {P : Program} {w : World} {t : TypeId} (e : TypeId) (a : Addr) (hu : P.underlying t = some (.pointer e)) (d : Nat) : (Op.equalIn (d + 1) t (.pointer (some a)) (.pointer none)).run P w = .ok false w := by simp [Op.equalIn, run_underlying hu]
theorem eqIn_map_l {P : Program} {w : World} {t : TypeId} (k e : TypeId) (r : Nat) (hu : P.underlying t = some (.map k e)) (d : Nat) : (Op.equalIn (d + 1) t (.map none) (.map (some r))).run P w = .ok false w := by simp [Op.equalIn, run_underlying hu]
theorem eqIn_map_r {P : Program} {w : World} {t : TypeId} (k e : TypeId) (r : Nat) (hu : P.underlying t = some (.map k e)) (d : Nat) : (Op.equalIn (d + 1) t (.map (some r)) (.map none)).run P w = .ok false w := by simp [Op.equalIn, run_underlying hu]
theorem eqIn_func_l {P : Program} {w : World} {t : TypeId} (p r : Array TypeId) (b : Bool) (f : Fn) (x y : Array Value) (hu : P.underlying t = some (.func p r b)) (d : Nat) : (Op.equalIn (d + 1) t (.nilFunc) (.func f x y)).run P w = .ok false w := by simp [Op.equalIn, run_underlying hu]
theorem eqIn_func_r {P : Program} {w : World} {t : TypeId} (p r : Array TypeId) (b : Bool) (f : Fn) (x y : Array Value) (hu : P.underlying t = some (.func p r b)) (d : Nat) : (Op.equalIn (d + 1) t (.func f x y) (.nilFunc)).run P w = .ok false w := by simp [Op.equalIn, run_underlying hu]
theorem eqIn_iface_l {P : Program} {w : World} {t : TypeId} (ms : Array _) (a : TypeId) (v : Value) (hu : P.underlying t = some (.interface ms)) (d : Nat) : (Op.equalIn (d + 1) t (.nilIface) (.iface a v)).run P w = .ok false w := by simp [Op.equalIn, run_underlying hu]
theorem eqIn_iface_r {P : Program} {w : World} {t : TypeId} (ms : Array _) (a : TypeId) (v : Value) (hu : P.underlying t = some (.interface ms)) (d : Nat) : (Op.equalIn (d + 1) t (.iface a v) (.nilIface)).run P w = .ok false w := by simp [Op.equalIn, run_underlying hu]
theorem nilCmp_good (hi : Inv E w0 g m w) {op : BinOp} {t : TypeId} {a b : Operand} {x y r : AV} {vx vy : Value} (h : anilCmp E op t x y = some r) (hx : Rep g x vx) (hy : Rep g y vy) :
    ∃ u, (do eqGuard op t a b vx vy; binOp op t vx vy : Sem Value).run E.P w = .ok u w ∧ Rep g r u := by
  unfold anilCmp at h
  split at h
  case h_2 => cases h
  rename_i d hu
  split at h
  case isFalse => cases h
  rename_i hc
  have key : (eqGuard op t a b vx vy).run E.P w = .ok () w ∧ (Op.equal t vx vy).run E.P w = .ok false w ∧ (∀ o, (o = .eql ∨ o = .neq) → binOp o t vx vy = if o = .eql then (do pure (.bool (← Op.equal t vx vy))) else (do pure (.bool (!(← Op.equal t vx vy))))) := by
    simp only [Bool.or_eq_true, Bool.and_eq_true] at hc
    rcases hc with ⟨⟨h1, h2⟩, h3⟩ | ⟨⟨h1, h2⟩, h3⟩
    · rcases nonNil_rep h2 h3 hy with ⟨e, ad, n, c, rfl, rfl⟩ | ⟨e, ad, rfl, rfl⟩ | ⟨k, e, rr, rfl, rfl⟩ | ⟨p, q, bb, f, xx, yy, rfl, rfl⟩ | ⟨ms, tt, pp, rfl, rfl⟩ <;>
        rcases nil_rep h1 hx with ⟨e', n', c', he, rfl⟩ | ⟨e', he, rfl⟩ | ⟨k', e', he, rfl⟩ | ⟨p', q', b', he, rfl⟩ | ⟨ms', he, rfl⟩ <;> cases he <;>
        refine ⟨by unfold eqGuard; split <;> simp, by first | exact eqIn_slice_l _ _ _ _ _ _ hu 9999 | exact eqIn_pointer_l _ _ hu 9999 | exact eqIn_map_l _ _ _ hu 9999 | exact eqIn_func_l _ _ _ _ _ _ hu 9999 | exact eqIn_iface_l _ _ _ hu 9999, fun o ho => by rcases ho with rfl | rfl <;> rfl⟩
    · rcases nonNil_rep h1 h2 hx with ⟨e, ad, n, c, rfl, rfl⟩ | ⟨e, ad, rfl, rfl⟩ | ⟨k, e, rr, rfl, rfl⟩ | ⟨p, q, bb, f, xx, yy, rfl, rfl⟩ | ⟨ms, tt, pp, rfl, rfl⟩ <;>
        rcases nil_rep h3 hy with ⟨e', n', c', he, rfl⟩ | ⟨e', he, rfl⟩ | ⟨k', e', he, rfl⟩ | ⟨p', q', b', he, rfl⟩ | ⟨ms', he, rfl⟩ <;> cases he <;>
        refine ⟨by unfold eqGuard; split <;> simp, by first | exact eqIn_slice_r _ _ _ _ _ _ hu 9999 | exact eqIn_pointer_r _ _ hu 9999 | exact eqIn_map_r _ _ _ hu 9999 | exact eqIn_func_r _ _ _ _ _ _ hu 9999 | exact eqIn_iface_r _ _ _ hu 9999, fun o ho => by rcases ho with rfl | rfl <;> rfl⟩
  obtain ⟨k1, k2, k3⟩ := key
  split at h
  · obtain rfl := Option.some.inj h
    refine ⟨.bool false, ?_, by simp only [Rep]⟩
    simp only [Sem.run_bind, k1, Result.andThen_ok, k3 _ (.inl rfl), if_true, k2, Sem.run_pure]
  · obtain rfl := Option.some.inj h
    refine ⟨.bool true, ?_, by simp only [Rep]⟩
    have := k3 .neq (.inr rfl)
    simp only [reduceCtorEq, if_false] at this
    simp only [Sem.run_bind, k1, Result.andThen_ok, this, k2, Sem.run_pure, Bool.not_false]
  · cases h

theorem s2ap_good {t : TypeId} {n e : Nat} {x : AV} {v : Value} (hu : E.P.underlying t = some (.array n e)) (hx : Rep g x v) :
    (∀ cells es k cap own, x = .sl cells es k cap own → n ≤ k → 0 < n * es → n * es ≤ cells.length → ∃ u, (Instr.arrayAt t v).run E.P w = .ok u w ∧ Rep g (.ep (cells.take (n * es))) u) ∧
    (∀ i off es k cap, x = .ref i off es k cap → n ≤ k → ∃ u, (Instr.arrayAt t v).run E.P w = .ok u w ∧ Rep g (.ptr i off) u) := by
  refine ⟨fun cells es k cap own he hk hp hl => ?_, fun i off es k cap he hk => ?_⟩
  · subst he
    simp only [Rep] at hx
    obtain ⟨A, c, l, rfl, _, _, _, _, hl', hkk, _⟩ := hx
    have hll := hl'.length
    obtain ⟨ad, rfl, _⟩ := hkk 0 (l[0]'(by omega)) (List.getElem?_eq_getElem _)
    refine ⟨.pointer (some ad), ?_, ?_⟩
    · simp [Instr.arrayAt, run_underlying hu, show ¬ k < n by omega]
    · simp only [Rep]
      refine ⟨ad, l.take (n * es), rfl, hl'.take _, fun j u hj => ?_⟩
      obtain ⟨ad', e', hk'⟩ := hkk j u (by rw [List.getElem?_take] at hj; split at hj; exact hj; cases hj)
      obtain rfl := Option.some.inj e'
      exact hk'
  · subst he
    simp only [Rep] at hx
    obtain ⟨ti, c, rfl, hT, _⟩ := hx
    exact ⟨.pointer (some ⟨ti.block, off, none⟩), by simp [Instr.arrayAt, run_underlying hu, show ¬ k < n by omega], by simp only [Rep]; exact ⟨ti, rfl, hT⟩⟩

theorem fnlist_rep {ρa : Operand → AV} {ρ : Operand → Value} : ∀ {l : List Operand}, (∀ x ∈ l, Rep g (ρa x) (ρ x)) → RepL g (l.map ρa) (l.map ρ)
  | [], _ => .nil
  | x :: r, h => .cons (h x (by simp)) (fnlist_rep fun y hy => h y (by simp [hy]))

theorem orep_map {ρa : Operand → AV} {ρ : Operand → Value} {x : Option Operand} (h : ∀ y, x = some y → Rep g (ρa y) (ρ y)) : ORep g (x.map ρa) (x.map ρ) := by
  cases x with
  | none => rfl
  | some y => exact ⟨_, rfl, h y rfl⟩

theorem xval_rep {a : AV} {v u : Value} (h : xval g.V a = some v) (hr : Rep g a u) : u = v := by
  cases a <;> simp only [xval, reduceCtorEq, Option.some.injEq] at h <;> simp only [Rep] at hr
  · rw [hr, h]
  · rw [hr.1, h]
theorem rep_xval {a : AV} {v : Value} (h : a = .v v ∨ ∃ i, a = .x i ∧ g.V i = v ∧ Scal v) : Rep g a v := by
  rcases h with rfl | ⟨i, rfl, h1, h2⟩
  · simp only [Rep]
  · simp only [Rep]
    exact ⟨h1.symm, h2⟩

/-- A call of a function value? -/
def isFnCall (o : Oper) : Bool :=
  match o.op with
  | .call c => match c.callee with | .value _ => true | _ => false
  | _ => false

theorem aop_good (hi : Inv E w0 g m w) {call : ACall} {fn : FuncId} {ρa : Operand → AV} {ρ : Operand → Value} {o : Oper} {res : ARes} (hρ : ∀ x ∈ o.op.operands, Rep g (ρa x) (ρ x))
    (h : aop E call fn ρa m o = some res) (hc : isFnCall o = false) : Good E w0 g ((execOp ρ o).run E.P w) res := by
  obtain ⟨dst, op, ty, pos, after, guard⟩ := o
  cases op with
  | move x =>
    simp only [aop, Option.some.injEq] at h
    subst h
    exact .same (by simp [execOp]) hi (hρ x (by simp [Op.operands]))
  | assign x =>
    simp only [aop, Option.some.injEq] at h
    subst h
    exact .same (by simp [execOp]) hi (hρ x (by simp [Op.operands]))
  | pick c a b =>
    simp only [aop] at h
    split at h
    · rename_i t ht
      obtain rfl := Option.some.inj h
      have hcr := hρ c (by simp [Op.operands])
      rw [ht] at hcr
      simp only [Rep] at hcr
      have ha := hρ a (by simp [Op.operands])
      have hb := hρ b (by simp [Op.operands])
      cases t
      · exact .same (v := ρ b) (by simp [execOp, asBool, hcr]) hi hb
      · exact .same (v := ρ a) (by simp [execOp, asBool, hcr]) hi ha
    · cases h
  | alloc e =>
    simp only [aop, Option.map_eq_some_iff] at h
    obtain ⟨z, hz, rfl⟩ := h
    obtain ⟨v, w', g', h1, h2, h3, h4⟩ := alloc_good hi hz
    exact ⟨v, w', g', .inl (by simp [execOp, h1]), h2, h3, h4⟩
  | box e x =>
    simp only [aop, Option.some.injEq] at h
    subst h
    obtain ⟨v, w', g', h1, h2, h3, h4⟩ := box_good (t := e) hi (hρ x (by simp [Op.operands]))
    exact ⟨v, w', g', .inl (by simp [execOp, h1]), h2, h3, h4⟩
  | build t ps =>
    simp only [aop, Option.map_eq_some_iff] at h
    obtain ⟨a, ha, rfl⟩ := h
    obtain ⟨h1, h2⟩ := pairs_rep (g := g) (ps := ps.toList) (ρa := ρa) (ρ := ρ) fun x hx => hρ x.2 (by simp only [Op.operands, List.mem_toArray, List.mem_map]; exact ⟨x, hx, rfl⟩)
    obtain ⟨u, h3, h4⟩ := build_run (qs := ps.toList.map fun x => (x.1, ρ x.2)) ha h1 h2 w
    refine .same (v := u) ?_ hi h4
    have : (ps.map fun (x : Nat × Operand) => (x.1, ρ x.2)) = (ps.toList.map fun x => (x.1, ρ x.2)).toArray := by apply Array.ext'; simp
    simp only [execOp, Sem.run_bind]
    rw [show (ps.map fun (i, x) => (i, ρ x)) = (ps.toList.map fun x => (x.1, ρ x.2)).toArray from this, h3]
    simp
  | buildSlice t n ps =>
    simp only [aop] at h
    obtain ⟨h1, h2⟩ := pairs_rep (g := g) (ps := ps.toList) (ρa := ρa) (ρ := ρ) fun x hx => hρ x.2 (by simp only [Op.operands, List.mem_toArray, List.mem_map]; exact ⟨x, hx, rfl⟩)
    obtain ⟨a, m', v, w', g', rfl, k1, k2, k3, k4⟩ := buildSlice_good (qs := ps.toList.map fun x => (x.1, ρ x.2)) hi h h1 h2
    refine ⟨v, w', g', .inl ?_, k2, k3, k4⟩
    have : (ps.map fun (x : Nat × Operand) => (x.1, ρ x.2)) = (ps.toList.map fun x => (x.1, ρ x.2)).toArray := by apply Array.ext'; simp
    simp only [execOp, Sem.run_bind]
    rw [show (ps.map fun (i, x) => (i, ρ x)) = (ps.toList.map fun x => (x.1, ρ x.2)).toArray from this, k1]
    simp
  | load t a =>
    simp only [aop, Option.map_eq_some_iff] at h
    obtain ⟨x, hx, rfl⟩ := h
    obtain ⟨ad, u, h1, h2, h3⟩ := load_run hi hx (hρ a (by simp [Op.operands]))
    exact .same (v := u) (by simp [execOp, Instr.loadAt, Instr.sureAddr, h1, h2]) hi h3
  | store t a x =>
    simp only [aop, Option.map_eq_some_iff] at h
    obtain ⟨m', hm, rfl⟩ := h
    obtain ⟨ad, w', h1, h2, h3⟩ := store_run hi hm (hρ a (by simp [Op.operands])) (hρ x (by simp [Op.operands]))
    exact ⟨undef, w', g, .inr ⟨by simp [execOp, Instr.storeAt, Instr.sureAddr, h1, h2], rfl⟩, .refl g, h3, by simp only [Rep]⟩
  | makeFunc f a b =>
    simp only [aop, Option.some.injEq] at h
    subst h
    refine .same (v := .func f (a.map ρ) (b.map ρ)) (by simp [execOp, Instr.makeFunc]) hi ?_
    simp only [Rep]
    have hm : ∀ c : Array Operand, c.map ρ = (c.toList.map ρ).toArray := fun c => by apply Array.ext'; simp
    refine ⟨a.toList.map ρ, b.toList.map ρ, by rw [hm, hm], fnlist_rep fun x hx => hρ x ?_, fnlist_rep fun x hx => hρ x ?_⟩ <;> simp [Op.operands] <;> simp at hx <;> simp [hx]
  | makeSlice t l c =>
    simp only [aop] at h
    obtain ⟨a, m', v, w', g', rfl, k1, k2, k3, k4⟩ := makeSlice_good hi h (hρ l (by simp [Op.operands])) (hρ c (by simp [Op.operands]))
    exact ⟨v, w', g', .inl (by simp [execOp, k1]), k2, k3, k4⟩
  | slice t x lo hi' mx =>
    simp only [aop] at h
    split at h
    · rename_i r hr
      obtain rfl := Option.some.inj h
      exact flat_good (fun cs b e => by cases e) hρ hr hi
    · obtain ⟨a, m', v, w', g', rfl, k1, k2, k3, k4⟩ := slice_good hi h (hρ x (by simp [Op.operands])) (orep_map (x := lo) fun y hy => hρ y (by simp [Op.operands, hy])) (orep_map (x := hi') fun y hy => hρ y (by simp [Op.operands, hy])) (orep_map (x := mx) fun y hy => hρ y (by simp [Op.operands, hy]))
      exact ⟨v, w', g', .inl (by simp [execOp, k1]), k2, k3, k4⟩
  | fieldAddr t x f =>
    simp only [aop, Option.map_eq_some_iff] at h
    obtain ⟨a, ha, rfl⟩ := h
    obtain ⟨u, h1, h2⟩ := fieldAddr_run ha (hρ x (by simp [Op.operands])) w
    exact .same (v := u) (by simp [execOp, h1]) hi h2
  | indexAddr t x ix =>
    simp only [aop, Option.map_eq_some_iff] at h
    obtain ⟨a, ha, rfl⟩ := h
    obtain ⟨u, h1, h2⟩ := indexAddr_run ha (hρ x (by simp [Op.operands])) (hρ ix (by simp [Op.operands])) w
    exact .same (v := u) (by simp [execOp, h1]) hi h2
  | field t x f =>
    have hx := hρ x (by simp [Op.operands])
    simp only [aop] at h
    split at h
    · rename_i cs hcs
      simp only [Option.map_eq_some_iff] at h
      obtain ⟨a, ha, rfl⟩ := h
      rw [hcs] at hx
      obtain ⟨u, h1, h2⟩ := field_run ha hx w
      exact .same (v := u) (by simp [execOp, h1]) hi h2
    · exact flat_good (fun cs b e => by cases e) hρ h hi
  | index t x ix =>
    have hx := hρ x (by simp [Op.operands])
    simp only [aop] at h
    split at h
    · rename_i cs hcs
      simp only [Option.map_eq_some_iff] at h
      obtain ⟨a, ha, rfl⟩ := h
      rw [hcs] at hx
      obtain ⟨u, h1, h2⟩ := index_run ha hx (hρ ix (by simp [Op.operands])) w
      exact .same (v := u) (by simp [execOp, h1]) hi h2
    · exact flat_good (fun cs b e => by cases e) hρ h hi
  | extract t i =>
    have hx := hρ t (by simp [Op.operands])
    simp only [aop] at h
    split at h
    · rename_i vs hvs
      simp only [Option.map_eq_some_iff] at h
      obtain ⟨a, ha, rfl⟩ := h
      rw [hvs] at hx
      simp only [Rep] at hx
      obtain ⟨l, hl, hr⟩ := hx
      obtain ⟨u, hu, hr'⟩ := hr.get ha
      exact .same (v := u) (by simp [execOp, Instr.extract, hl, hu]) hi hr'
    · exact flat_good (fun cs b e => by cases e) hρ h hi
  | nilCheck x =>
    have hx := hρ x (by simp [Op.operands])
    simp only [aop] at h
    split at h
    · rename_i i off hv
      obtain rfl := Option.some.inj h
      rw [hv] at hx
      have hx' := hx
      simp only [Rep] at hx
      obtain ⟨ti, he, _⟩ := hx
      exact .same (v := ρ x) (by simp [execOp, he]) hi hx'
    · rename_i cs hv
      obtain rfl := Option.some.inj h
      rw [hv] at hx
      have hx' := hx
      simp only [Rep] at hx
      obtain ⟨ad, l, he, _⟩ := hx
      exact .same (v := ρ x) (by simp [execOp, he]) hi hx'
    · rename_i k a b hv
      obtain rfl := Option.some.inj h
      rw [hv] at hx
      have hx' := hx
      simp only [Rep] at hx
      obtain ⟨ad, l, he, _⟩ := hx
      exact .same (v := ρ x) (by simp [execOp, he]) hi hx'
    · exact flat_good (fun cs b e => by cases e) hρ h hi
  | binOp op t x y yt =>
    simp only [aop] at h
    split at h
    · rename_i r hr
      obtain rfl := Option.some.inj h
      exact flat_good (fun cs b e => by cases e) hρ hr hi
    split at h
    · rename_i a ha
      obtain rfl := Option.some.inj h
      unfold afact at ha
      simp only [Option.map_eq_some_iff] at ha
      obtain ⟨f, hf, rfl⟩ := ha
      have hm := List.mem_of_find?_eq_some hf
      have hb := List.find?_some hf
      simp only [Bool.and_eq_true, beq_iff_eq] at hb
      obtain ⟨⟨⟨rfl, rfl⟩, hb1⟩, hb2⟩ := hb
      obtain ⟨vx, vy, vr, e1, e2, e3, hrun⟩ := hi.fact f hm
      have hx := xval_rep (by rw [beq_eq _ _ hb1] at e1; exact e1) (hρ x (by simp [Op.operands]))
      have hy := xval_rep (by rw [beq_eq _ _ hb2] at e2; exact e2) (hρ y (by simp [Op.operands]))
      refine .same (v := vr) ?_ hi (rep_xval e3)
      have h1 := hrun x y w
      rw [← hx, ← hy] at h1
      simp only [execOp, Sem.run_bind] at h1 ⊢
      rw [h1]
      simp
    · simp only [Option.map_eq_some_iff] at h
      obtain ⟨a, ha, rfl⟩ := h
      obtain ⟨u, h1, h2⟩ := nilCmp_good hi (a := x) (b := y) ha (hρ x (by simp [Op.operands])) (hρ y (by simp [Op.operands]))
      exact .same (v := u) (by simp only [execOp, Sem.run_bind] at h1 ⊢; rw [h1]; simp) hi h2
  | convert s d x =>
    simp only [aop] at h
    split at h
    · rename_i r hr
      obtain rfl := Option.some.inj h
      exact flat_good (fun cs b e => by cases e) hρ hr hi
    · obtain ⟨a, m', v, w', g', rfl, k1, k2, k3, k4⟩ := convert_good hi h (hρ x (by simp [Op.operands]))
      exact ⟨v, w', g', .inl (by simp [execOp, k1]), k2, k3, k4⟩
  | sliceToArrayPointer t x =>
    have hx := hρ x (by simp [Op.operands])
    simp only [aop] at h
    split at h
    · rename_i n e cells es k cp ow hu hv
      split at h
      · rename_i hcnd
        obtain ⟨c1, c2, c3, _⟩ := hcnd
        obtain rfl := Option.some.inj h
        rw [hv] at hx
        obtain ⟨u, h1, h2⟩ := (s2ap_good (w := w) hu hx).1 _ _ _ _ _ rfl c1 c2 c3
        exact .same (v := u) (by simp [execOp, h1]) hi h2
      · cases h
    · rename_i n e i off es k cp hu hv
      split at h
      · rename_i hcnd
        obtain rfl := Option.some.inj h
        rw [hv] at hx
        obtain ⟨u, h1, h2⟩ := (s2ap_good (w := w) hu hx).2 _ _ _ _ _ rfl hcnd.1
        exact .same (v := u) (by simp [execOp, h1]) hi h2
      · cases h
    · cases h
  | unOp u t x => exact flat_good (fun cs b e => by cases e) hρ (by simpa only [aop] using h) hi
  | makeInterface t x => exact flat_good (fun cs b e => by cases e) hρ (by simpa only [aop] using h) hi
  | typeAssert x t a ok => exact flat_good (fun cs b e => by cases e) hρ (by simpa only [aop] using h) hi
  | panic x => exact flat_good (fun cs b e => by cases e) hρ (by simpa only [aop] using h) hi
  | call c =>
    obtain ⟨callee, args, ats⟩ := c
    cases callee with
    | value f => simp [isFnCall] at hc
    | invoke r nm => simp [aop] at h
    | builtin b =>
      simp only [aop] at h
      split at h
      · rename_i r hr
        obtain rfl := Option.some.inj h
        exact flat_good (fun cs b e => by cases e) hρ hr hi
      · have hargs : RepL g (args.toList.map ρa) (args.toList.map ρ) := fnlist_rep fun x hx => hρ x (by simp [Op.operands, Call.operands]; simpa using hx)
        have hmap : args.map ρ = (args.toList.map ρ).toArray := by apply Array.ext'; simp
        unfold abuiltin at h
        split at h
        · rename_i d x hda hfl
          rw [hda] at hargs
          obtain ⟨vd, s1, e1, hd, hr1⟩ := hargs.cons_inv
          obtain ⟨vx, s2, rfl, hx, hr2⟩ := hr1.cons_inv
          obtain rfl := hr2.nil_inv
          rw [e1] at hmap
          simp only [Option.bind_eq_some_iff] at h
          obtain ⟨sT, h0, h⟩ := h
          split at h
          · rename_i kd hk
            simp only [Option.bind_eq_some_iff] at hk
            obtain ⟨xT, h1, hux⟩ := hk
            obtain ⟨a, m', v, w', g', rfl, k1, k2, k3, k4⟩ := appendZeros_good (ty := ty) hi h0 h1 hux h hd hx
            exact ⟨v, w', g', .inl (by simp [execOp, resolve, invoke, builtin, hmap, k1]), k2, k3, k4⟩
          · rename_i dx hne hk
            simp only [Option.bind_eq_some_iff] at hk
            obtain ⟨xT, h1, hux⟩ := hk
            obtain ⟨a, m', v, w', g', rfl, k1, k2, k3, k4⟩ := append_good (ty := ty) hi h0 h1 hux (fun kd e => by subst e; exact hne kd rfl) h hd hx
            exact ⟨v, w', g', .inl (by simp [execOp, resolve, invoke, builtin, hmap, k1]), k2, k3, k4⟩
          · cases h
        · rename_i d x hda hfl
          rw [hda] at hargs
          obtain ⟨vd, s1, e1, hd, hr1⟩ := hargs.cons_inv
          obtain ⟨vx, s2, rfl, hx, hr2⟩ := hr1.cons_inv
          obtain rfl := hr2.nil_inv
          rw [e1] at hmap
          simp only [Option.bind_eq_some_iff] at h
          obtain ⟨dT, h0, h⟩ := h
          obtain ⟨a, m', v, w', g', rfl, k1, k2, k3, k4⟩ := copy_good (ty := ty) hi h0 h hd hx
          exact ⟨v, w', g', .inl (by simp [execOp, resolve, invoke, builtin, hmap, k1]), k2, k3, k4⟩
        · rename_i x hda hfl
          rw [hda] at hargs
          obtain ⟨vx, s2, e1, hx, hr2⟩ := hargs.cons_inv
          obtain rfl := hr2.nil_inv
          rw [e1] at hmap
          split at h
          · rename_i e cells es n cap own hu
            simp only [Option.bind_eq_some_iff] at hu
            obtain ⟨t, h0, hu⟩ := hu
            obtain rfl := Option.some.inj h
            simp only [Rep] at hx
            obtain ⟨A, c, l, rfl, _⟩ := hx
            exact .same (v := .int .i64 n) (by simp [execOp, resolve, invoke, builtin, hmap, Builtin.len_, h0, run_underlying hu, goInt]) hi (by simp only [Rep])
          · rename_i e i off es n cap hu
            simp only [Option.bind_eq_some_iff] at hu
            obtain ⟨t, h0, hu⟩ := hu
            obtain rfl := Option.some.inj h
            simp only [Rep] at hx
            obtain ⟨ti, c, rfl, _⟩ := hx
            exact .same (v := .int .i64 n) (by simp [execOp, resolve, invoke, builtin, hmap, Builtin.len_, h0, run_underlying hu, goInt]) hi (by simp only [Rep])
          · cases h
        · rename_i x hda hfl
          rw [hda] at hargs
          obtain ⟨vx, s2, e1, hx, hr2⟩ := hargs.cons_inv
          obtain rfl := hr2.nil_inv
          rw [e1] at hmap
          split at h
          · rename_i e cells es n c own hu
            simp only [Option.bind_eq_some_iff] at hu
            obtain ⟨t, h0, hu⟩ := hu
            obtain rfl := Option.some.inj h
            simp only [Rep] at hx
            obtain ⟨A, c', l, rfl, _, _, _, hcap, _⟩ := hx
            obtain rfl := hcap c rfl
            exact .same (v := .int .i64 c') (by simp [execOp, resolve, invoke, builtin, hmap, Builtin.cap_, h0, run_underlying hu, goInt]) hi (by simp only [Rep])
          · rename_i e i off es n c hu
            simp only [Option.bind_eq_some_iff] at hu
            obtain ⟨t, h0, hu⟩ := hu
            obtain rfl := Option.some.inj h
            simp only [Rep] at hx
            obtain ⟨ti, c', rfl, _, _, _, hcap, _⟩ := hx
            obtain rfl := hcap c rfl
            exact .same (v := .int .i64 c') (by simp [execOp, resolve, invoke, builtin, hmap, Builtin.cap_, h0, run_underlying hu, goInt]) hi (by simp only [Rep])
          · cases h
        · cases h
  | _ => simp [aop] at h
end
end Go.Vm
