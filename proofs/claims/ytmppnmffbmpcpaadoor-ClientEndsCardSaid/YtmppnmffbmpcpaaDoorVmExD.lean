/- The abstract machine: regions that draw their order: what the trace and the checks say. -/
import Derived.Test.YtmppnmffbmpcpaaDoorVmExC
set_option linter.unusedVariables false
set_option linter.unusedSimpArgs false
namespace Go.Vm
open Go.RowKit

def frAt (recs : List DRec) (a0 : AF) (u : Nat) : AF := (recs.take u).foldl (fun a r => aput a r.o.dst r.x) a0
def memAt (E : Env) (fn : FuncId) (recs : List DRec) (m0 : AM) (u : Nat) : AM := (recs.take u).foldl (fun m r => if loud E fn r.o then r.m' else m) m0

theorem take_succ_get {α : Type} {l : List α} {u : Nat} {r : α} (h : l[u]? = some r) : l.take (u + 1) = l.take u ++ [r] := by
  rw [List.take_add_one, h]; rfl

section
variable {E : Env} {call : ACall} {fn : FuncId} {ops : Array Oper} {bs : Array Nat}

theorem frAt_succ {recs : List DRec} {a0 : AF} {u : Nat} {r : DRec} (h : recs[u]? = some r) : frAt recs a0 (u + 1) = aput (frAt recs a0 u) r.o.dst r.x := by
  simp [frAt, take_succ_get h]
theorem memAt_succ {recs : List DRec} {m0 : AM} {u : Nat} {r : DRec} (h : recs[u]? = some r) : memAt E fn recs m0 (u + 1) = if loud E fn r.o then r.m' else memAt E fn recs m0 u := by
  simp [memAt, take_succ_get h]
theorem frAt_append {recs t : List DRec} {a0 : AF} {u : Nat} (h : u ≤ recs.length) : frAt (recs ++ t) a0 u = frAt recs a0 u := by
  simp [frAt, List.take_append_of_le_length h]
theorem memAt_append {recs t : List DRec} {m0 : AM} {u : Nat} (h : u ≤ recs.length) : memAt E fn (recs ++ t) m0 u = memAt E fn recs m0 u := by
  simp [memAt, List.take_append_of_le_length h]

structure TrFacts (E : Env) (call : ACall) (fn : FuncId) (ops : Array Oper) (a0 : AF) (m0 : AM) (recs : List DRec) (pn : Option (DRec × Nat)) (a : AF) (m : AM) : Prop where
  all : ∀ u r, recs[u]? = some r → ops[r.i]? = some r.o ∧ r.a = frAt recs a0 u ∧ r.m = memAt E fn recs m0 u ∧ aone E call fn ops r.o r.a r.m = some (.ret r.x r.m')
  pan : ∀ p k, pn = some (p, k) → k ≤ recs.length ∧ ops[p.i]? = some p.o ∧ p.a = frAt recs a0 k ∧ p.m = memAt E fn recs m0 k ∧ ∃ y, p.x = .v y ∧ aone E call fn ops p.o p.a p.m = some (.pan y p.m')
  fr : a = frAt recs a0 recs.length
  mem : m = memAt E fn recs m0 recs.length

theorem TrFacts.snoc {a0 : AF} {m0 : AM} {recs : List DRec} {pn : Option (DRec × Nat)} {a : AF} {m : AM} (h : TrFacts E call fn ops a0 m0 recs pn a m) {i : Nat} {o : Oper} (ho : ops[i]? = some o) {x : AV} {m' : AM}
    (hx : aone E call fn ops o a m = some (.ret x m')) : TrFacts E call fn ops a0 m0 (recs ++ [⟨i, o, a, m, x, m'⟩]) pn (aput a o.dst x) (if loud E fn o then m' else m) := by
  have hlast : (recs ++ [(⟨i, o, a, m, x, m'⟩ : DRec)])[recs.length]? = some ⟨i, o, a, m, x, m'⟩ := by simp
  have hfr : frAt (recs ++ [(⟨i, o, a, m, x, m'⟩ : DRec)]) a0 recs.length = a := (frAt_append (Nat.le_refl _)).trans h.fr.symm
  have hmem : memAt E fn (recs ++ [(⟨i, o, a, m, x, m'⟩ : DRec)]) m0 recs.length = m := (memAt_append (Nat.le_refl _)).trans h.mem.symm
  refine ⟨fun u r hr => ?_, fun p k hp => ?_, ?_, ?_⟩
  · rcases Nat.lt_trichotomy u recs.length with hlt | rfl | hgt
    · rw [List.getElem?_append_left hlt] at hr
      rw [frAt_append (Nat.le_of_lt hlt), memAt_append (Nat.le_of_lt hlt)]
      exact h.all u r hr
    · rw [hlast] at hr
      obtain rfl := Option.some.inj hr
      exact ⟨ho, hfr.symm, hmem.symm, hx⟩
    · rw [List.getElem?_eq_none (by simp; omega)] at hr
      cases hr
  · obtain ⟨h1, h2, h3, h4, h5⟩ := h.pan p k hp
    rw [frAt_append h1, memAt_append h1]
    exact ⟨by simp; omega, h2, h3, h4, h5⟩
  · rw [List.length_append, List.length_singleton, frAt_succ hlast, hfr]
  · rw [List.length_append, List.length_singleton, memAt_succ hlast, hmem]

theorem atrace_facts {a0 : AF} {m0 : AM} : ∀ (l : List (Nat × Oper)), (∀ p ∈ l, ops[p.1]? = some p.2) → ∀ {a : AF} {m : AM} {pn : Option (DRec × Nat)} {acc : List DRec} {recs : List DRec} {pn' : Option (DRec × Nat)} {af : AF} {mf : AM},
    atrace E call fn ops bs l a m pn acc = some (recs, pn', af, mf) → TrFacts E call fn ops a0 m0 acc.reverse pn a m → TrFacts E call fn ops a0 m0 recs pn' af mf
  | [], _, a, m, pn, acc, recs, pn', af, mf, h, hf => by
    simp only [atrace, Option.some.injEq, Prod.mk.injEq] at h
    obtain ⟨rfl, rfl, rfl, rfl⟩ := h
    exact hf
  | (i, o) :: rest, hl, a, m, pn, acc, recs, pn', af, mf, h, hf => by
    have hrest : ∀ p ∈ rest, ops[p.1]? = some p.2 := fun p hp => hl p (by simp [hp])
    have ho : ops[i]? = some o := hl (i, o) (by simp)
    unfold atrace at h
    split at h
    · exact atrace_facts rest hrest h hf
    · split at h
      · rename_i x m' hx
        refine atrace_facts rest hrest h ?_
        rw [List.reverse_cons]
        exact hf.snoc ho hx
      · rename_i x m' hx
        split at h
        · rename_i hpn
          have hpn' : pn = none := by simpa using hpn
          subst hpn'
          refine atrace_facts rest hrest h ⟨hf.all, fun p k hp => ?_, hf.fr, hf.mem⟩
          simp only [Option.some.injEq, Prod.mk.injEq] at hp
          obtain ⟨rfl, rfl⟩ := hp
          have hlen : acc.reverse.length = acc.length := by simp
          refine ⟨by simp, ho, ?_, ?_, x, rfl, hx⟩
          · rw [← hlen]; exact hf.fr
          · rw [← hlen]; exact hf.mem
        · cases h
      · cases h

/-- What stands in a slot ahead of a step. -/
theorem slotAt {recs : List DRec} {a0 : AF} : ∀ (v : Nat), v ≤ recs.length → ∀ t : Nat, (frAt recs a0 v).length = a0.length ∧
    (((∀ u q, u < v → recs[u]? = some q → q.o.dst ≠ some t) ∧ (frAt recs a0 v)[t]? = a0[t]?) ∨ ∃ u q, u < v ∧ recs[u]? = some q ∧ q.o.dst = some t ∧ (t < a0.length → (frAt recs a0 v)[t]? = some q.x))
  | 0, _, t => by
    refine ⟨by simp [frAt], .inl ⟨fun u q hu => absurd hu (by omega), by simp [frAt]⟩⟩
  | v + 1, hv, t => by
    have hlt : v < recs.length := hv
    have hr : recs[v]? = some recs[v] := List.getElem?_eq_getElem hlt
    obtain ⟨hlen, ih⟩ := slotAt (recs := recs) (a0 := a0) v (by omega) t
    rw [frAt_succ hr]
    generalize recs[v] = r at hr
    refine ⟨by cases h : r.o.dst <;> simp [aput, hlen], ?_⟩
    by_cases hd : r.o.dst = some t
    · refine .inr ⟨v, r, by omega, hr, hd, fun ht => ?_⟩
      rw [hd]
      simp only [aput]
      rw [List.getElem?_set_self (by omega)]
    · have hsame : (aput (frAt recs a0 v) r.o.dst r.x)[t]? = (frAt recs a0 v)[t]? := by
        cases h : r.o.dst with
        | none => rfl
        | some d =>
          simp only [aput]
          rw [List.getElem?_set_ne (fun e => hd (by rw [h, e]))]
      rcases ih with ⟨h1, h2⟩ | ⟨u, q, h1, h2, h3, h4⟩
      · refine .inl ⟨fun u q hu hq => ?_, hsame.trans h2⟩
        by_cases he : u = v
        · subst he
          rw [hr] at hq
          obtain rfl := Option.some.inj hq
          exact hd
        · exact h1 u q (by omega) hq
      · exact .inr ⟨u, q, by omega, h2, h3, fun ht => hsame.trans (h4 ht)⟩

/-- No loud step between: the memory is the same. -/
theorem memAt_same {recs : List DRec} {m0 : AM} {u : Nat} : ∀ (v : Nat), u ≤ v → v ≤ recs.length → (∀ k r, u ≤ k → k < v → recs[k]? = some r → loud E fn r.o = false) → memAt E fn recs m0 v = memAt E fn recs m0 u
  | 0, h, _, _ => by rw [Nat.le_zero.1 h]
  | v + 1, h, hl, hk => by
    by_cases he : u = v + 1
    · rw [he]
    · have hr : recs[v]? = some recs[v] := List.getElem?_eq_getElem hl
      rw [memAt_succ hr, if_neg (by rw [hk v _ (by omega) (by omega) hr]; simp)]
      exact memAt_same v (by omega) (by omega) fun k r h1 h2 => hk k r h1 (by omega)

/-- The last loud step between two places. -/
theorem last_loud {recs : List DRec} {u : Nat} : ∀ (v : Nat), u ≤ v → v ≤ recs.length → (∀ k r, u ≤ k → k < v → recs[k]? = some r → loud E fn r.o = false) ∨
    ∃ k r, u ≤ k ∧ k < v ∧ recs[k]? = some r ∧ loud E fn r.o = true ∧ ∀ j q, k < j → j < v → recs[j]? = some q → loud E fn q.o = false
  | 0, h, _ => .inl fun k r _ hk => absurd hk (by omega)
  | v + 1, h, hl => by
    by_cases he : u = v + 1
    · exact .inl fun k r h1 h2 => by omega
    · have hr : recs[v]? = some recs[v] := List.getElem?_eq_getElem hl
      generalize recs[v] = r at hr
      cases hlo : loud E fn r.o with
      | true => exact .inr ⟨v, r, by omega, by omega, hr, hlo, fun j q h1 h2 => by omega⟩
      | false =>
        rcases last_loud (recs := recs) (u := u) v (by omega) (by omega) with h1 | ⟨k, q, h1, h2, h3, h4, h5⟩
        · refine .inl fun k q hk1 hk2 hq => ?_
          by_cases hkv : k = v
          · subst hkv
            rw [hr] at hq
            exact Option.some.inj hq ▸ hlo
          · exact h1 k q hk1 (by omega) hq
        · refine .inr ⟨k, q, h1, by omega, h3, h4, fun j q' hj1 hj2 hq' => ?_⟩
          by_cases hjv : j = v
          · subst hjv
            rw [hr] at hq'
            exact Option.some.inj hq' ▸ hlo
          · exact h5 j q' hj1 (by omega) hq'

theorem allPairs_get {α : Type} {f : α → α → Bool} : ∀ {l : List α}, allPairs f l = true → ∀ (u v : Nat) r q, u < v → l[u]? = some r → l[v]? = some q → f r q = true
  | [], _, u, v, r, q, _, hr, _ => by simp at hr
  | x :: l, h, u, v, r, q, huv, hr, hq => by
    simp only [allPairs, Bool.and_eq_true] at h
    cases v with
    | zero => omega
    | succ v =>
      simp only [List.getElem?_cons_succ] at hq
      cases u with
      | zero =>
        simp only [List.getElem?_cons_zero, Option.some.injEq] at hr
        subst hr
        exact List.all_eq_true.1 h.1 q (List.mem_of_getElem? hq)
      | succ u =>
        simp only [List.getElem?_cons_succ] at hr
        exact allPairs_get h.2 u v r q (by omega) hr hq

/-! ### The edges -/
theorem bits_fold (bs : Array Nat) (j : Nat) : ∀ (l : List Edge) (s : Nat), (l.foldl (fun s e => if Region.binds .any e then s ||| 2 ^ e.on ||| bs.getD e.on 0 else s) s).testBit j = true ↔
    s.testBit j = true ∨ ∃ e ∈ l, Region.binds .any e = true ∧ (j = e.on ∨ (bs.getD e.on 0).testBit j = true)
  | [], s => by simp
  | e :: l, s => by
    rw [List.foldl_cons, bits_fold bs j l]
    by_cases hb : Region.binds .any e = true
    · rw [if_pos hb]
      simp only [Nat.testBit_or, Nat.testBit_two_pow, Bool.or_eq_true, decide_eq_true_eq, List.mem_cons]
      constructor
      · rintro (((h | h) | h) | ⟨e', h1, h2⟩)
        · exact .inl h
        · exact .inr ⟨e, .inl rfl, hb, .inl h.symm⟩
        · exact .inr ⟨e, .inl rfl, hb, .inr h⟩
        · exact .inr ⟨e', .inr h1, h2⟩
      · rintro (h | ⟨e', rfl | h1, h2, h3⟩)
        · exact .inl (.inl (.inl h))
        · rcases h3 with h3 | h3
          · exact .inl (.inl (.inr h3.symm))
          · exact .inl (.inr h3)
        · exact .inr ⟨e', h1, h2, h3⟩
    · rw [if_neg hb]
      simp only [List.mem_cons]
      constructor
      · rintro (h | ⟨e', h1, h2⟩)
        · exact .inl h
        · exact .inr ⟨e', .inr h1, h2⟩
      · rintro (h | ⟨e', rfl | h1, h2, h3⟩)
        · exact .inl h
        · exact absurd h2 hb
        · exact .inr ⟨e', h1, h2, h3⟩

structure StFacts (ops : Array Oper) (bs : Array Nat) (i : Nat) (o : Oper) : Prop where
  back : ∀ e ∈ o.after, Region.binds .any e = true → e.on < i
  bits : ∀ j, (bs.getD i 0).testBit j = true ↔ ∃ e ∈ o.after, Region.binds .any e = true ∧ (j = e.on ∨ (bs.getD e.on 0).testBit j = true)
  dst : ∀ j q d, j ≠ i → ops[j]? = some q → q.dst = some d → o.dst ≠ some d
  looks : ∀ j q d, j ≠ i → ops[j]? = some q → q.dst = some d → d ∈ o.looksAt ops → (bs.getD i 0).testBit j = true ∨ (bs.getD j 0).testBit i = true

theorem static_facts (h : drawStatic ops bs = true) {i : Nat} {o : Oper} (ho : ops[i]? = some o) : StFacts ops bs i o := by
  unfold drawStatic at h
  have hi : i < ops.size := (Array.getElem?_eq_some_iff.1 ho).1
  have h1 := List.all_eq_true.1 h i (List.mem_range.2 hi)
  rw [ho] at h1
  simp only [Bool.and_eq_true] at h1
  obtain ⟨⟨h1, h2⟩, h3⟩ := h1
  have h2' := eq_of_beq h2
  have hpair : ∀ j q d, j ≠ i → ops[j]? = some q → q.dst = some d → (o.dst != some d && (!(o.looksAt ops).contains d || (bs.getD i 0).testBit j || (bs.getD j 0).testBit i)) = true := by
    intro j q d hj hq hd
    have hjl : j < ops.size := (Array.getElem?_eq_some_iff.1 hq).1
    have := List.all_eq_true.1 h3 j (List.mem_range.2 hjl)
    rw [hq] at this
    simp only [Option.bind_some, hd, Bool.or_eq_true, beq_iff_eq, hj, false_or] at this
    simpa using this
  refine ⟨fun e he hb => ?_, fun j => ?_, fun j q d hj hq hd => ?_, fun j q d hj hq hd hm => ?_⟩
  · have := List.all_eq_true.1 h1 e (by simpa using he)
    simpa [hb] using this
  · rw [h2', bits_fold]
    simp
  · have := hpair j q d hj hq hd
    simp only [Bool.and_eq_true, bne_iff_ne] at this
    exact this.1
  · have := hpair j q d hj hq hd
    simp only [Bool.and_eq_true, Bool.or_eq_true, Bool.not_eq_true'] at this
    rcases this.2 with (h | h) | h
    · exact absurd (by simpa using hm) (by simpa using h)
    · exact .inl h
    · exact .inr h
end
end Go.Vm
