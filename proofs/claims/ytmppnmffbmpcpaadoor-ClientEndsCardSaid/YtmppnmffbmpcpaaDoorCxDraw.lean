/- The symbolic layer: regions that draw their order: steps in the order of the text, each a contract of its own, stand for every order. -/
import Derived.Test.YtmppnmffbmpcpaaDoorCxLoop
set_option linter.unusedVariables false
set_option linter.unusedSimpArgs false
namespace Go.Vm.Sy
open Go.RowKit Go.Vm

/-- One step of the text's order: the frame and the memory ahead of it, what it comes to, the memory behind it, and whether that is another one. -/
structure SRec where
  i : Nat
  o : Oper
  a : AF
  m : AM
  x : AV
  m' : AM
  mv : Bool
  free : Bool
  deriving Inhabited

/-- One operation of a region, where it is wanted. -/
structure StepG (E : Env) (ops : Array Oper) (o : Oper) (a : AF) (m : AM) (x : AV) (m' : AM) : Prop where
  run : ∀ (w0 : World) (g : G) (act : Act) (w : World), Inv E w0 g m w → (∀ t ∈ o.looksAt ops, SlotRel g a act t) → ∀ (i : Nat), ops[i]? = some o → ∀ (K : Act → World → Prop) (Q : Exit → Act → World → Prop),
    (∀ v w' g', g.le g' → Inv E w0 g' m' w' → Rep g' x v → K (act.put o.dst v) w') → wpOp E.P ops Q i K act w
/-- .. that panics. -/
structure PanG (E : Env) (ops : Array Oper) (o : Oper) (a : AF) (m : AM) (x : AV) (m' : AM) : Prop where
  run : ∀ (w0 : World) (g : G) (act : Act) (w : World), Inv E w0 g m w → (∀ t ∈ o.looksAt ops, SlotRel g a act t) → ∀ (i : Nat), ops[i]? = some o → ∀ (K : Act → World → Prop) (Q : Exit → Act → World → Prop),
    (∀ v w' g', g.le g' → Inv E w0 g' m' w' → Rep g' x v → Q (.panic [{ v := v, recovered := false }]) act w') → wpOp E.P ops Q i K act w

def frAt (recs : List SRec) (a0 : AF) (u : Nat) : AF := (recs.take u).foldl (fun a r => aput a r.o.dst r.x) a0
def memAt (recs : List SRec) (m0 : AM) (u : Nat) : AM := (recs.take u).foldl (fun m r => if r.mv then r.m' else m) m0

theorem take_succ_get {α : Type} {l : List α} {u : Nat} {r : α} (h : l[u]? = some r) : l.take (u + 1) = l.take u ++ [r] := by
  rw [List.take_add_one, h]; rfl

section
variable {E : Env} {ops : Array Oper} {bs : Array Nat}

theorem frAt_succ {recs : List SRec} {a0 : AF} {u : Nat} {r : SRec} (h : recs[u]? = some r) : frAt recs a0 (u + 1) = aput (frAt recs a0 u) r.o.dst r.x := by
  simp [frAt, take_succ_get h]
theorem memAt_succ {recs : List SRec} {m0 : AM} {u : Nat} {r : SRec} (h : recs[u]? = some r) : memAt recs m0 (u + 1) = if r.mv then r.m' else memAt recs m0 u := by
  simp [memAt, take_succ_get h]
theorem frAt_append {recs t : List SRec} {a0 : AF} {u : Nat} (h : u ≤ recs.length) : frAt (recs ++ t) a0 u = frAt recs a0 u := by
  simp [frAt, List.take_append_of_le_length h]
theorem memAt_append {recs t : List SRec} {m0 : AM} {u : Nat} (h : u ≤ recs.length) : memAt (recs ++ t) m0 u = memAt recs m0 u := by
  simp [memAt, List.take_append_of_le_length h]

structure TrFacts (E : Env) (ops : Array Oper) (a0 : AF) (m0 : AM) (recs : List SRec) (pn : Option (SRec × Nat)) (a : AF) (m : AM) : Prop where
  all : ∀ u r, recs[u]? = some r → ops[r.i]? = some r.o ∧ r.a = frAt recs a0 u ∧ r.m = memAt recs m0 u ∧ StepG E ops r.o r.a r.m r.x r.m' ∧ (r.mv = false → r.m' = r.m) ∧ (r.free = true → ∀ M, StepG E ops r.o r.a M r.x M) ∧ (floats r.o = true → r.mv = true ∧ ∃ e z, r.o.op = .alloc e ∧ tzero E e = some z ∧ r.x = .ptr r.m.length 0 ∧ r.m' = r.m ++ [.wr (z.cells.toList.map .v) e false])
  pan : ∀ p k, pn = some (p, k) → k ≤ recs.length ∧ ops[p.i]? = some p.o ∧ p.a = frAt recs a0 k ∧ p.m = memAt recs m0 k ∧ PanG E ops p.o p.a p.m p.x p.m'
  fr : a = frAt recs a0 recs.length
  mem : m = memAt recs m0 recs.length

theorem TrFacts.snoc {a0 : AF} {m0 : AM} {recs : List SRec} {pn : Option (SRec × Nat)} {a : AF} {m : AM} (h : TrFacts E ops a0 m0 recs pn a m) {i : Nat} {o : Oper} (ho : ops[i]? = some o) {x : AV} {m' : AM} {mv fr : Bool}
    (hx : StepG E ops o a m x m') (hm : mv = false → m' = m) (hfre : fr = true → ∀ M, StepG E ops o a M x M) (hfl : floats o = true → mv = true ∧ ∃ e z, o.op = .alloc e ∧ tzero E e = some z ∧ x = .ptr m.length 0 ∧ m' = m ++ [.wr (z.cells.toList.map .v) e false]) : TrFacts E ops a0 m0 (recs ++ [⟨i, o, a, m, x, m', mv, fr⟩]) pn (aput a o.dst x) (if mv then m' else m) := by
  have hlast : (recs ++ [(⟨i, o, a, m, x, m', mv, fr⟩ : SRec)])[recs.length]? = some ⟨i, o, a, m, x, m', mv, fr⟩ := by simp
  have hfr : frAt (recs ++ [(⟨i, o, a, m, x, m', mv, fr⟩ : SRec)]) a0 recs.length = a := (frAt_append (Nat.le_refl _)).trans h.fr.symm
  have hmem : memAt (recs ++ [(⟨i, o, a, m, x, m', mv, fr⟩ : SRec)]) m0 recs.length = m := (memAt_append (Nat.le_refl _)).trans h.mem.symm
  refine ⟨fun u r hr => ?_, fun p k hp => ?_, ?_, ?_⟩
  · rcases Nat.lt_trichotomy u recs.length with hlt | rfl | hgt
    · rw [List.getElem?_append_left hlt] at hr
      rw [frAt_append (Nat.le_of_lt hlt), memAt_append (Nat.le_of_lt hlt)]
      exact h.all u r hr
    · rw [hlast] at hr
      obtain rfl := Option.some.inj hr
      exact ⟨ho, hfr.symm, hmem.symm, hx, hm, hfre, hfl⟩
    · rw [List.getElem?_eq_none (by simp; omega)] at hr
      cases hr
  · obtain ⟨h1, h2, h3, h4, h5⟩ := h.pan p k hp
    rw [frAt_append h1, memAt_append h1]
    exact ⟨by simp; omega, h2, h3, h4, h5⟩
  · rw [List.length_append, List.length_singleton, frAt_succ hlast, hfr]
  · rw [List.length_append, List.length_singleton, memAt_succ hlast, hmem]

/-- What stands in a slot ahead of a step. -/
theorem slotAt {recs : List SRec} {a0 : AF} : ∀ (v : Nat), v ≤ recs.length → ∀ t : Nat, (frAt recs a0 v).length = a0.length ∧
    (((∀ u q, u < v → recs[u]? = some q → q.o.dst ≠ some t) ∧ (frAt recs a0 v)[t]? = a0[t]?) ∨ ∃ u q, u < v ∧ recs[u]? = some q ∧ q.o.dst = some t ∧ (t < a0.length → (frAt recs a0 v)[t]? = some q.x))
  | 0, _, t => by
    refine ⟨by simp [frAt], .inl ⟨fun u q hu => absurd hu (by omega), by simp [frAt]⟩⟩
  | v + 1, hv, t => by
    have hlt : v < recs.length := hv
    have hr : recs[v]? = some recs[v] := List.getElem?_eq_getElem hlt
    obtain ⟨hlen, ih⟩ := slotAt (recs := recs) (a0 := a0) v (by omega) t
    rw [frAt_succ hr]
    generalize recs[v] = r at hr
    refine ⟨by cases h : r.o.dst <;> simp [aput, hlen], ?_⟩
    by_cases hd : r.o.dst = some t
    · refine .inr ⟨v, r, by omega, hr, hd, fun ht => ?_⟩
      rw [hd]
      simp only [aput]
      rw [List.getElem?_set_self (by omega)]
    · have hsame : (aput (frAt recs a0 v) r.o.dst r.x)[t]? = (frAt recs a0 v)[t]? := by
        cases h : r.o.dst with
        | none => rfl
        | some d =>
          simp only [aput]
          rw [List.getElem?_set_ne (fun e => hd (by rw [h, e]))]
      rcases ih with ⟨h1, h2⟩ | ⟨u, q, h1, h2, h3, h4⟩
      · refine .inl ⟨fun u q hu hq => ?_, hsame.trans h2⟩
        by_cases he : u = v
        · subst he
          rw [hr] at hq
          obtain rfl := Option.some.inj hq
          exact hd
        · exact h1 u q (by omega) hq
      · exact .inr ⟨u, q, by omega, h2, h3, fun ht => hsame.trans (h4 ht)⟩

/-- No loud step between: the memory is the same. -/
theorem memAt_same {recs : List SRec} {m0 : AM} {u : Nat} : ∀ (v : Nat), u ≤ v → v ≤ recs.length → (∀ k r, u ≤ k → k < v → recs[k]? = some r → r.mv = false) → memAt recs m0 v = memAt recs m0 u
  | 0, h, _, _ => by rw [Nat.le_zero.1 h]
  | v + 1, h, hl, hk => by
    by_cases he : u = v + 1
    · rw [he]
    · have hr : recs[v]? = some recs[v] := List.getElem?_eq_getElem hl
      rw [memAt_succ hr, if_neg (by rw [hk v _ (by omega) (by omega) hr]; simp)]
      exact memAt_same v (by omega) (by omega) fun k r h1 h2 => hk k r h1 (by omega)

/-- The last loud step between two places. -/
theorem last_loud {recs : List SRec} {u : Nat} : ∀ (v : Nat), u ≤ v → v ≤ recs.length → (∀ k r, u ≤ k → k < v → recs[k]? = some r → r.mv = false) ∨
    ∃ k r, u ≤ k ∧ k < v ∧ recs[k]? = some r ∧ r.mv = true ∧ ∀ j q, k < j → j < v → recs[j]? = some q → q.mv = false
  | 0, h, _ => .inl fun k r _ hk => absurd hk (by omega)
  | v + 1, h, hl => by
    by_cases he : u = v + 1
    · exact .inl fun k r h1 h2 => by omega
    · have hr : recs[v]? = some recs[v] := List.getElem?_eq_getElem hl
      generalize recs[v] = r at hr
      cases hlo : r.mv with
      | true => exact .inr ⟨v, r, by omega, by omega, hr, hlo, fun j q h1 h2 => by omega⟩
      | false =>
        rcases last_loud (recs := recs) (u := u) v (by omega) (by omega) with h1 | ⟨k, q, h1, h2, h3, h4, h5⟩
        · refine .inl fun k q hk1 hk2 hq => ?_
          by_cases hkv : k = v
          · subst hkv
            rw [hr] at hq
            exact Option.some.inj hq ▸ hlo
          · exact h1 k q hk1 (by omega) hq
        · refine .inr ⟨k, q, h1, by omega, h3, h4, fun j q' hj1 hj2 hq' => ?_⟩
          by_cases hjv : j = v
          · subst hjv
            rw [hr] at hq'
            exact Option.some.inj hq' ▸ hlo
          · exact h5 j q' hj1 (by omega) hq'


end
section
variable {E : Env} {w0 : World} {ds : List Deferred} {ops : Array Oper} {bs : Array Nat}
variable {a0 : AF} {m0 : AM} {recs : List SRec} {pn : Option (SRec × Nat)} {af : AF} {mf : AM}

def Listed (l : Array Bool) (i : Nat) : Prop := l.getD i false = true
def Bit (bs : Array Nat) (i j : Nat) : Prop := (bs.getD i 0).testBit j = true

/-- What stands when some operations have been carried out, the first 'c' steps of the text among them. -/
structure DInv (E : Env) (w0 : World) (ds : List Deferred) (ops : Array Oper) (bs : Array Nat) (a0 : AF) (m0 : AM) (recs : List SRec) (pn : Option (SRec × Nat)) (g0 g : G) (listed : Array Bool) (act : Act) (w : World) (c : Nat) (pb : Nat → Nat) : Prop where
  sub : g0.sub g
  inv : Inv E w0 g (memAt recs m0 c) w
  size : listed.size = ops.size
  down : ∀ i j, Listed listed i → Bit bs i j → Listed listed j
  nopan : ∀ p k, pn = some (p, k) → ¬ Listed listed p.i
  len : act.tmps.size = a0.length
  defers : act.defers = ds
  cl : c ≤ recs.length
  ahead : ∀ (u : Nat) (r : SRec), recs[u]? = some r → u < c → r.mv = true → Listed listed r.i
  later : ∀ (u : Nat) (r : SRec), recs[u]? = some r → c ≤ u → r.mv = true → floats r.o = false → ¬ Listed listed r.i
  slot : ∀ (u : Nat) (r : SRec), recs[u]? = some r → Listed listed r.i → (floats r.o = true → u < c) → ∀ t v, r.o.dst = some t → act.tmps[t]? = some v → Rep g r.x v
  old : ∀ t v x, act.tmps[t]? = some v → a0[t]? = some x → (∀ (u : Nat) (r : SRec), recs[u]? = some r → Listed listed r.i → r.o.dst ≠ some t) → Rep g x v
  xsub : ∀ b o, g0.X b = some o → g.X b = some o
  pend : ∀ (u : Nat) (r : SRec), recs[u]? = some r → Listed listed r.i → floats r.o = true → c ≤ u → ∃ cs e, g.X (pb u) = some (.cells cs e) ∧ g0.X (pb u) = none ∧
    r.x = .ptr r.m.length 0 ∧ r.m' = r.m ++ [.wr (cs.toList.map .v) e false] ∧ ∀ t v, r.o.dst = some t → act.tmps[t]? = some v → v = .pointer (some ⟨pb u, 0, none⟩)
  distinct : ∀ (u u' : Nat) (r r' : SRec), recs[u]? = some r → recs[u']? = some r' → Listed listed r.i → Listed listed r'.i → floats r.o = true → floats r'.o = true → c ≤ u → c ≤ u' → u ≠ u' → pb u ≠ pb u'

def skippedS (bs : Array Nat) (pn : Option (SRec × Nat)) (i : Nat) : Bool :=
  match pn with
  | some q => (bs.getD i 0).testBit q.1.i
  | none => false

/-- r stands ahead of q in the order of the text: in every order that the edges allow they come to the same. -/
def PairS (E : Env) (ops : Array Oper) (bs : Array Nat) (recs : List SRec) (r q : SRec) : Prop :=
  r.i ≠ q.i ∧ ¬ Bit bs r.i q.i ∧
  if r.mv then
    if q.mv then
      if floats q.o then ∀ s ∈ recs, ∀ d, q.o.dst = some d → d ∈ s.o.looksAt ops → Bit bs s.i r.i else Bit bs q.i r.i
    else Bit bs q.i r.i ∨ StepG E ops q.o q.a r.m q.x r.m
  else if q.mv then Bit bs q.i r.i ∨ StepG E ops r.o r.a q.m' r.x q.m' else True

/-- All that the checks say. -/
structure Facts (E : Env) (ops : Array Oper) (bs : Array Nat) (a0 : AF) (m0 : AM) (recs : List SRec) (pn : Option (SRec × Nat)) (a : AF) (m : AM) : Prop where
  tr : TrFacts E ops a0 m0 recs pn a m
  st : ∀ i o, ops[i]? = some o → StFacts ops bs i o
  pair : ∀ (u v : Nat) (r q : SRec), u < v → recs[u]? = some r → recs[v]? = some q → PairS E ops bs recs r q
  pan : ∀ p k, pn = some (p, k) → (∀ (u : Nat) (r : SRec), recs[u]? = some r → u < k → r.mv = true → Bit bs p.i r.i) ∧
    (∀ (u : Nat) (r : SRec), recs[u]? = some r → k ≤ u → r.mv = false ∧ ¬ Bit bs p.i r.i) ∧ ∀ (u : Nat) (r : SRec), recs[u]? = some r → r.i ≠ p.i ∧ ¬ Bit bs r.i p.i
  cover : ∀ i, i < ops.size → (∃ (u : Nat) (r : SRec), recs[u]? = some r ∧ r.i = i) ∨ skippedS bs pn i = true ∨ ∃ p k, pn = some (p, k) ∧ i = p.i

theorem Facts.uniq (hF : Facts E ops bs a0 m0 recs pn af mf) {u v : Nat} {r q : SRec} (hr : recs[u]? = some r) (hq : recs[v]? = some q) (h : r.i = q.i) : u = v ∧ r = q := by
  rcases Nat.lt_trichotomy u v with hlt | rfl | hgt
  · have := hF.pair u v r q hlt hr hq
    exact absurd h this.1
  · rw [hr] at hq
    exact ⟨rfl, Option.some.inj hq⟩
  · have := hF.pair v u q r hgt hq hr
    exact absurd h.symm this.1

/-- What waits and may come, comes. -/
theorem DInv.norm (hF : Facts E ops bs a0 m0 recs pn af mf) {g0 : G} {listed : Array Bool} {act : Act} {w : World} {pb : Nat → Nat} : ∀ (k : Nat) (g : G) (c : Nat), recs.length - c = k →
    DInv E w0 ds ops bs a0 m0 recs pn g0 g listed act w c pb → ∃ g' c', DInv E w0 ds ops bs a0 m0 recs pn g0 g' listed act w c' pb ∧ (c' = recs.length ∨ ∃ r, recs[c']? = some r ∧ r.mv = true ∧ ¬ Listed listed r.i)
  | 0, g, c, hk, h => ⟨g, c, h, .inl (by have := h.cl; omega)⟩
  | k + 1, g, c, hk, h => by
    have hlt : c < recs.length := by omega
    have hr : recs[c]? = some recs[c] := List.getElem?_eq_getElem hlt
    generalize recs[c] = r at hr
    have hmem := memAt_succ (m0 := m0) hr
    cases hlo : r.mv with
    | false =>
      rw [hlo] at hmem
      simp only [Bool.false_eq_true, if_false] at hmem
      have hnf : floats r.o = false := by
        cases hf : floats r.o with
        | false => rfl
        | true => rw [((hF.tr.all c r hr).2.2.2.2.2.2 hf).1] at hlo; cases hlo
      refine DInv.norm hF k g (c + 1) (by omega) ⟨h.sub, by rw [hmem]; exact h.inv, h.size, h.down, h.nopan, h.len, h.defers, hlt, ?_, ?_, ?_, h.old, h.xsub, ?_, ?_⟩
      · intro u q hq hu hl
        by_cases hu' : u = c
        · subst hu'
          rw [hr] at hq
          obtain rfl := Option.some.inj hq
          rw [hlo] at hl
          cases hl
        · exact h.ahead u q hq (by omega) hl
      · exact fun u q hq hu => h.later u q hq (by omega)
      · intro u q hq hl hfl
        refine h.slot u q hq hl fun hf => ?_
        have := hfl hf
        by_cases hu' : u = c
        · subst hu'
          rw [hr] at hq
          obtain rfl := Option.some.inj hq
          rw [hnf] at hf
          cases hf
        · omega
      · exact fun u q hq hl hf hu => h.pend u q hq hl hf (by omega)
      · exact fun u u' q q' h1 h2 h3 h4 h5 h6 h7 h8 => h.distinct u u' q q' h1 h2 h3 h4 h5 h6 (by omega) (by omega)
    | true =>
      by_cases hli : Listed listed r.i
      · have hf : floats r.o = true := by
          cases hf : floats r.o with
          | true => rfl
          | false => exact absurd hli (h.later c r hr (Nat.le_refl _) hlo hf)
        obtain ⟨cs, e, hX, hX0, hx, hm', hptr⟩ := h.pend c r hr hli hf (Nat.le_refl _)
        obtain ⟨ho, hra, hrm, hone, _⟩ := hF.tr.all c r hr
        obtain ⟨g', k1, k2, k3, k4⟩ := h.inv.come hX (.of_vals cs.toList)
        rw [hlo] at hmem
        simp only [if_true] at hmem
        have hinv : Inv E w0 g' (memAt recs m0 (c + 1)) w := by
          rw [hmem, hm', hrm]
          exact k3
        refine DInv.norm hF k g' (c + 1) (by omega) ⟨h.sub.trans k1, hinv, h.size, h.down, h.nopan, h.len, h.defers, hlt, ?_, ?_, ?_, ?_, ?_, ?_, ?_⟩
        · intro u q hq hu hl
          by_cases hu' : u = c
          · subst hu'
            rw [hr] at hq
            obtain rfl := Option.some.inj hq
            exact hli
          · exact h.ahead u q hq (by omega) hl
        · exact fun u q hq hu => h.later u q hq (by omega)
        · intro u q hq hl hfl t v ht hv
          by_cases hu' : u = c
          · subst hu'
            rw [hr] at hq
            obtain rfl := Option.some.inj hq
            rw [hptr t v ht hv, hx]
            simp only [Rep]
            exact ⟨_, rfl, by rw [hrm]; exact k4⟩
          · exact Rep.msub k1 _ (h.slot u q hq hl (fun hf' => by have := hfl hf'; omega) t v ht hv)
        · exact fun t v x hv hx hno => Rep.msub k1 _ (h.old t v x hv hx hno)
        · intro b o hb
          rw [k2]
          rw [if_neg (fun e => by rw [e, hX0] at hb; cases hb)]
          exact h.xsub b o hb
        · intro u q hq hl hf' hu
          obtain ⟨cs', e', hX', rest⟩ := h.pend u q hq hl hf' (by omega)
          refine ⟨cs', e', ?_, rest⟩
          rw [k2, if_neg (h.distinct u c q r hq hr hl hli hf' hf (by omega) (Nat.le_refl _) (by omega))]
          exact hX'
        · exact fun u u' q q' h1 h2 h3 h4 h5 h6 h7 h8 => h.distinct u u' q q' h1 h2 h3 h4 h5 h6 (by omega) (by omega)
      · exact ⟨g, c, h, .inr ⟨r, hr, hlo, hli⟩⟩

theorem Facts.frLen (hF : Facts E ops bs a0 m0 recs pn af mf) {v : Nat} (hv : v ≤ recs.length) : (frAt recs a0 v).length = a0.length := (slotAt v hv 0).1

/-- What a step looks at is what the text's order has there. -/
theorem DInv.looks (hF : Facts E ops bs a0 m0 recs pn af mf) {g0 g : G} {listed : Array Bool} {act : Act} {w : World} {c : Nat} {pb : Nat → Nat} (h : DInv E w0 ds ops bs a0 m0 recs pn g0 g listed act w c pb)
    {i : Nat} {o : Oper} (ho : ops[i]? = some o) (hni : ¬ Listed listed i) (hanc : ∀ j, Bit bs i j → Listed listed j) {v : Nat} (hv : v ≤ recs.length)
    (hself : ∀ (u : Nat) (q : SRec), recs[u]? = some q → u < v → q.i ≠ i) (hback : ∀ (u : Nat) (q : SRec), recs[u]? = some q → u < v → ¬ Bit bs q.i i) (hfwd : ∀ (u : Nat) (q : SRec), recs[u]? = some q → v ≤ u → ¬ Bit bs i q.i)
    (hfl : ∀ (u : Nat) (q : SRec) (t : Nat), recs[u]? = some q → Listed listed q.i → floats q.o = true → q.o.dst = some t → t ∈ o.looksAt ops → u < c) :
    ∀ t ∈ o.looksAt ops, SlotRel g (frAt recs a0 v) act t := by
  intro (t : Nat) ht
  have hst := hF.st i o ho
  obtain ⟨hlen, hs⟩ := slotAt (recs := recs) (a0 := a0) v hv t
  by_cases htl : t < a0.length
  · obtain ⟨val, hv'⟩ : ∃ val, act.tmps[t]? = some val := ⟨_, Array.getElem?_eq_getElem (by rw [h.len]; exact htl)⟩
    refine .inr ?_
    rcases hs with ⟨h1, h2⟩ | ⟨u, q, h1, h2, h3, h4⟩
    · refine ⟨a0[t], val, h2.trans (List.getElem?_eq_getElem htl), hv', h.old t val _ hv' (List.getElem?_eq_getElem htl) fun u q hq hl hd => ?_⟩
      by_cases hu : u < v
      · exact h1 u q hu hq hd
      · have hqi : q.i ≠ i := fun e => hni (e ▸ hl)
        rcases hst.looks q.i q.o t hqi (hF.tr.all u q hq).1 hd ht with hb | hb
        · exact hfwd u q hq (by omega) hb
        · exact hni (h.down _ _ hl hb)
    · have hback' := hback u q h2 h1
      have hqi : q.i ≠ i := hself u q h2 h1
      rcases hst.looks q.i q.o t hqi (hF.tr.all u q h2).1 h3 ht with hb | hb
      · have hl := hanc _ hb
        exact ⟨q.x, val, h4 htl, hv', h.slot u q h2 hl (fun hf => hfl u q t h2 hl hf h3 ht) t val h3 hv'⟩
      · exact absurd hb hback'
  · refine .inl ⟨?_, ?_⟩
    · rw [List.getElem?_eq_none_iff]; omega
    · rw [Array.getElem?_eq_none_iff, h.len]; omega

theorem listed_set {l : Array Bool} {i j : Nat} (hi : i < l.size) : Listed (l.setIfInBounds i true) j ↔ j = i ∨ Listed l j := by
  unfold Listed
  rw [Array.getD_eq_getD_getElem?, Array.getD_eq_getD_getElem?, Array.getElem?_setIfInBounds]
  by_cases h : i = j
  · subst h
    simp [hi]
  · rw [if_neg h]
    constructor
    · exact .inr
    · rintro (e | h')
      · exact absurd e.symm h
      · exact h'

theorem put_get_ne {act : Act} {dst : Option Tmp} {v : Value} {t : Nat} (h : dst ≠ some t) : (act.put dst v).tmps[t]? = act.tmps[t]? := by
  cases dst with
  | none => rfl
  | some d =>
    simp only [Act.put]
    exact Array.getElem?_setIfInBounds_ne (fun e => h (by rw [e]))
theorem put_get_self {act : Act} {v u : Value} {t : Nat} (h : (act.put (some t) v).tmps[t]? = some u) : u = v := by
  simp only [Act.put, Array.getElem?_setIfInBounds_self] at h
  split at h
  · exact (Option.some.inj h).symm
  · cases h

/-- One step more. -/
theorem DInv.put (hF : Facts E ops bs a0 m0 recs pn af mf) {g0 g g' : G} {listed : Array Bool} {act : Act} {w w' : World} {c c' : Nat} {pb : Nat → Nat} (h : DInv E w0 ds ops bs a0 m0 recs pn g0 g listed act w c pb)
    {v : Nat} {r : SRec} (hr : recs[v]? = some r) (hni : ¬ Listed listed r.i) (hanc : ∀ j, Bit bs r.i j → Listed listed j) (hle : g.le g') (hi : Inv E w0 g' (memAt recs m0 c') w') {val : Value} (hval : Rep g' r.x val)
    (hc : (r.mv = false ∧ c' = c) ∨ (r.mv = true ∧ c = v ∧ c' = v + 1)) (hnf : floats r.o = false) :
    DInv E w0 ds ops bs a0 m0 recs pn g0 g' (listed.setIfInBounds r.i true) (act.put r.o.dst val) w' c' pb := by
  obtain ⟨ho, _⟩ := hF.tr.all v r hr
  have hil : r.i < listed.size := by rw [h.size]; exact (Array.getElem?_eq_some_iff.1 ho).1
  have hls : ∀ j, Listed (listed.setIfInBounds r.i true) j ↔ j = r.i ∨ Listed listed j := fun j => listed_set hil
  have hcc : c ≤ c' := by rcases hc with ⟨_, rfl⟩ | ⟨_, rfl, rfl⟩ <;> omega
  have hvl : v < recs.length := (List.getElem?_eq_some_iff.1 hr).1
  have hdst : ∀ (u : Nat) (q : SRec) (t : Nat), recs[u]? = some q → q.i ≠ r.i → q.o.dst = some t → r.o.dst ≠ some t := fun u q t hq hne ht => (hF.st r.i r.o ho).dst q.i q.o t hne (hF.tr.all u q hq).1 ht
  refine ⟨h.sub.trans hle.sub, hi, by rw [Array.size_setIfInBounds]; exact h.size, ?_, ?_, by rw [put_size]; exact h.len, by rw [put_defers']; exact h.defers, ?_, ?_, ?_, ?_, ?_, ?_, ?_, ?_⟩
  · intro i j hl hb
    rw [hls] at hl ⊢
    rcases hl with rfl | hl
    · exact .inr (hanc j hb)
    · exact .inr (h.down i j hl hb)
  · intro p k hp hl
    rw [hls] at hl
    rcases hl with he | hl
    · exact ((hF.pan p k hp).2.2 v r hr).1 he.symm
    · exact h.nopan p k hp hl
  · rcases hc with ⟨_, rfl⟩ | ⟨_, rfl, rfl⟩
    · exact h.cl
    · exact hvl
  · intro u q hq hu hlo
    rw [hls]
    by_cases huc : u < c
    · exact .inr (h.ahead u q hq huc hlo)
    · rcases hc with ⟨_, rfl⟩ | ⟨_, rfl, rfl⟩
      · exact absurd hu huc
      · have : u = c := by omega
        subst this
        rw [hr] at hq
        obtain rfl := Option.some.inj hq
        exact .inl rfl
  · intro u q hq hu hlo hf hl
    rw [hls] at hl
    rcases hl with he | hl
    · obtain ⟨rfl, rfl⟩ := hF.uniq hq hr he
      rcases hc with ⟨h1, _⟩ | ⟨_, rfl, rfl⟩
      · rw [h1] at hlo; cases hlo
      · omega
    · exact h.later u q hq (by omega) hlo hf hl
  · intro u q hq hl hfl t x ht hx
    rw [hls] at hl
    by_cases he : q.i = r.i
    · obtain ⟨rfl, rfl⟩ := hF.uniq hq hr he
      rw [ht] at hx
      rw [put_get_self hx]
      exact hval
    · rw [put_get_ne (hdst u q t hq he ht)] at hx
      refine Rep.mono hle _ (h.slot u q hq (hl.resolve_left he) (fun hf => ?_) t x ht hx)
      have := hfl hf
      rcases hc with ⟨_, rfl⟩ | ⟨_, rfl, rfl⟩
      · exact this
      · rcases Nat.lt_or_eq_of_le (Nat.le_of_lt_succ this) with h1 | rfl
        · exact h1
        · rw [hr] at hq
          exact absurd (by rw [Option.some.inj hq]) he
  · intro t x y hx hy hno
    have hrt : r.o.dst ≠ some t := hno v r hr ((hls _).2 (.inl rfl))
    rw [put_get_ne hrt] at hx
    exact Rep.mono hle _ (h.old t x y hx hy fun u q hq hl => hno u q hq ((hls _).2 (.inr hl)))
  · intro b o hb
    rw [hle.3]
    exact h.xsub b o hb
  · intro u q hq hl hf hu
    rw [hls] at hl
    have he : q.i ≠ r.i := fun e => by
      obtain ⟨rfl, rfl⟩ := hF.uniq hq hr e
      rw [hnf] at hf; cases hf
    obtain ⟨cs, e, k1, k2, k3, k4, k5⟩ := h.pend u q hq (hl.resolve_left he) hf (by omega)
    refine ⟨cs, e, by rw [hle.3]; exact k1, k2, k3, k4, fun t x ht hx => ?_⟩
    rw [put_get_ne (hdst u q t hq he ht)] at hx
    exact k5 t x ht hx
  · intro u u' q q' hq hq' hl hl' hf hf' hu hu' hne
    rw [hls] at hl hl'
    have he : q.i ≠ r.i := fun e => by
      obtain ⟨rfl, rfl⟩ := hF.uniq hq hr e
      rw [hnf] at hf; cases hf
    have he' : q'.i ≠ r.i := fun e => by
      obtain ⟨rfl, rfl⟩ := hF.uniq hq' hr e
      rw [hnf] at hf'; cases hf'
    exact h.distinct u u' q q' hq hq' (hl.resolve_left he) (hl'.resolve_left he') hf hf' (by omega) (by omega) hne

theorem ext_lt {g : G} {m : AM} {w : World} (hi : Inv E w0 g m w) {b : Nat} {o : Obj} (h : g.X b = some o) : b < w.heap.size := (Array.getElem?_eq_some_iff.1 (hi.ext b o h).1).1

/-- A variable is made, perhaps ahead of its turn. -/
theorem DInv.float (hF : Facts E ops bs a0 m0 recs pn af mf) {g0 g : G} {listed : Array Bool} {act : Act} {w : World} {c : Nat} {pb : Nat → Nat} (h : DInv E w0 ds ops bs a0 m0 recs pn g0 g listed act w c pb)
    {v : Nat} {r : SRec} (hr : recs[v]? = some r) (hni : ¬ Listed listed r.i) (hanc : ∀ j, Bit bs r.i j → Listed listed j) (hf : floats r.o = true) {e : TypeId} {z : Value} (hx : r.x = .ptr r.m.length 0) (hm : r.m' = r.m ++ [.wr (z.cells.toList.map .v) e false]) :
    DInv E w0 ds ops bs a0 m0 recs pn g0 (g.withX fun b => if b = w.heap.size then some (.cells z.cells e) else g.X b) (listed.setIfInBounds r.i true) (act.put r.o.dst (.pointer (some ⟨w.heap.size, 0, none⟩))) (w.alloc (.cells z.cells e)) c
      (fun u => if u = v then w.heap.size else pb u) := by
  obtain ⟨ho, _⟩ := hF.tr.all v r hr
  have hil : r.i < listed.size := by rw [h.size]; exact (Array.getElem?_eq_some_iff.1 ho).1
  have hls : ∀ j, Listed (listed.setIfInBounds r.i true) j ↔ j = r.i ∨ Listed listed j := fun j => listed_set hil
  have hvl : v < recs.length := (List.getElem?_eq_some_iff.1 hr).1
  have hdst : ∀ (u : Nat) (q : SRec) (t : Nat), recs[u]? = some q → q.i ≠ r.i → q.o.dst = some t → r.o.dst ≠ some t := fun u q t hq hne ht => (hF.st r.i r.o ho).dst q.i q.o t hne (hF.tr.all u q hq).1 ht
  have hcv : c ≤ v := by
    rcases Nat.lt_or_ge v c with hlt | hge
    · exact absurd (h.ahead v r hr hlt ((hF.tr.all v r hr).2.2.2.2.2.2 hf).1) hni
    · exact hge
  have hsub : g.sub (g.withX fun b => if b = w.heap.size then some (.cells z.cells e) else g.X b) := G.sub_withX _
  have huv : ∀ (u : Nat) (q : SRec), recs[u]? = some q → q.i ≠ r.i → u ≠ v := fun u q hq hne e => by
    subst e
    rw [hr] at hq
    exact hne (by rw [Option.some.inj hq])
  refine ⟨h.sub.trans hsub, h.inv.wait _, by rw [Array.size_setIfInBounds]; exact h.size, ?_, ?_, by rw [put_size]; exact h.len, by rw [put_defers']; exact h.defers, h.cl, ?_, ?_, ?_, ?_, ?_, ?_, ?_⟩
  · intro i j hl hb
    rw [hls] at hl ⊢
    rcases hl with rfl | hl
    · exact .inr (hanc j hb)
    · exact .inr (h.down i j hl hb)
  · intro p k hp hl
    rw [hls] at hl
    rcases hl with he | hl
    · exact ((hF.pan p k hp).2.2 v r hr).1 he.symm
    · exact h.nopan p k hp hl
  · intro u q hq hu hlo
    rw [hls]
    exact .inr (h.ahead u q hq hu hlo)
  · intro u q hq hu hlo hnf hl
    rw [hls] at hl
    rcases hl with he | hl
    · obtain ⟨rfl, rfl⟩ := hF.uniq hq hr he
      rw [hf] at hnf; cases hnf
    · exact h.later u q hq hu hlo hnf hl
  · intro u q hq hl hfl t x ht hx'
    rw [hls] at hl
    by_cases he : q.i = r.i
    · obtain ⟨rfl, rfl⟩ := hF.uniq hq hr he
      have := hfl hf
      omega
    · rw [put_get_ne (hdst u q t hq he ht)] at hx'
      exact Rep.msub hsub _ (h.slot u q hq (hl.resolve_left he) hfl t x ht hx')
  · intro t x y hx' hy hno
    have hrt : r.o.dst ≠ some t := hno v r hr ((hls _).2 (.inl rfl))
    rw [put_get_ne hrt] at hx'
    exact Rep.msub hsub _ (h.old t x y hx' hy fun u q hq hl => hno u q hq ((hls _).2 (.inr hl)))
  · intro b o hb
    have h1 := h.xsub b o hb
    have := ext_lt h.inv h1
    simp only [G.withX]
    rw [if_neg (by omega)]
    exact h1
  · intro u q hq hl hf' hu
    rw [hls] at hl
    by_cases he : q.i = r.i
    · obtain ⟨rfl, rfl⟩ := hF.uniq hq hr he
      refine ⟨z.cells, e, by simp [G.withX], ?_, hx, hm, fun t x ht hx' => ?_⟩
      · rw [if_pos rfl]
        cases hX : g0.X w.heap.size with
        | none => rfl
        | some o => exact absurd (ext_lt h.inv (h.xsub _ _ hX)) (Nat.lt_irrefl _)
      · rw [ht] at hx'
        rw [put_get_self hx', if_pos rfl]
    · obtain ⟨cs, e', k1, k2, k3, k4, k5⟩ := h.pend u q hq (hl.resolve_left he) hf' hu
      have := ext_lt h.inv k1
      rw [if_neg (huv u q hq he)]
      refine ⟨cs, e', ?_, k2, k3, k4, fun t x ht hx' => ?_⟩
      · simp only [G.withX]
        rw [if_neg (by omega)]
        exact k1
      · rw [put_get_ne (hdst u q t hq he ht)] at hx'
        exact k5 t x ht hx'
  · intro u u' q q' hq hq' hl hl' hf1 hf2 hu hu' hne
    rw [hls] at hl hl'
    by_cases he : q.i = r.i
    · obtain ⟨rfl, rfl⟩ := hF.uniq hq hr he
      by_cases he' : q'.i = q.i
      · exact absurd (hF.uniq hq' hr he').1.symm hne
      · obtain ⟨cs, e', k1, _⟩ := h.pend u' q' hq' (hl'.resolve_left he') hf2 hu'
        have := ext_lt h.inv k1
        rw [if_pos rfl, if_neg (huv u' q' hq' he')]
        omega
    · obtain ⟨cs, e', k1, _⟩ := h.pend u q hq (hl.resolve_left he) hf1 hu
      have := ext_lt h.inv k1
      rw [if_neg (huv u q hq he)]
      by_cases he' : q'.i = r.i
      · obtain ⟨rfl, rfl⟩ := hF.uniq hq' hr he'
        rw [if_pos rfl]
        omega
      · rw [if_neg (huv u' q' hq' he')]
        exact h.distinct u u' q q' hq hq' (hl.resolve_left he) (hl'.resolve_left he') hf1 hf2 hu hu' hne

theorem ready_spec {listed : Array Bool} {i : Nat} (hsz : listed.size = ops.size) : i ∈ Region.ready .any ops listed ↔ ∃ o, ops[i]? = some o ∧ ¬ Listed listed i ∧ ∀ e ∈ o.after, Region.binds .any e = true → Listed listed e.on := by
  unfold Region.ready Listed
  simp only [List.mem_filter, List.mem_range, Bool.and_eq_true, Bool.not_eq_true']
  constructor
  · rintro ⟨hi, h1, h2⟩
    have ho : ops[i]? = some ops[i] := Array.getElem?_eq_getElem hi
    generalize ops[i] = o at ho
    rw [ho] at h2
    simp only [Option.map_some, Option.getD_some, Array.all_eq_true'] at h2
    refine ⟨o, ho, ?_, fun e he hb => ?_⟩
    · have hil : i < listed.size := by omega
      rw [Array.getD_eq_getD_getElem?, Array.getElem?_eq_getElem hil] at h1 ⊢
      simp only [Option.getD_some] at h1 ⊢
      rw [h1]
      simp
    · have := h2 e he
      simpa [hb] using this
  · rintro ⟨o, ho, h1, h2⟩
    have hi := (Array.getElem?_eq_some_iff.1 ho).1
    have hil : i < listed.size := by omega
    refine ⟨hi, ?_, ?_⟩
    · rw [Array.getD_eq_getD_getElem?, Array.getElem?_eq_getElem hil] at h1 ⊢
      simpa using h1
    · rw [ho]
      simp only [Option.map_some, Option.getD_some, Array.all_eq_true']
      intro e he
      cases hb : Region.binds .any e with
      | false => rfl
      | true => simpa using h2 e he hb

/-- Nothing is ready: all is done. -/
theorem all_listed (hF : Facts E ops bs a0 m0 recs pn af mf) {listed : Array Bool} (hsz : listed.size = ops.size) (h : Region.ready .any ops listed = []) : ∀ i, i < ops.size → Listed listed i := by
  intro i
  induction i using Nat.strongRecOn with
  | _ i ih =>
    intro hi
    have ho : ops[i]? = some ops[i] := Array.getElem?_eq_getElem hi
    generalize ops[i] = o at ho
    refine Classical.byContradiction fun hl => ?_
    have : i ∈ Region.ready .any ops listed := (ready_spec hsz).2 ⟨o, ho, hl, fun e he hb => ih e.on ((hF.st i o ho).back e he hb) (Nat.lt_trans ((hF.st i o ho).back e he hb) hi)⟩
    rw [h] at this
    cases this

theorem anc_listed (hF : Facts E ops bs a0 m0 recs pn af mf) {g0 g : G} {listed : Array Bool} {act : Act} {w : World} {c : Nat} {pb : Nat → Nat} (h : DInv E w0 ds ops bs a0 m0 recs pn g0 g listed act w c pb)
    {i : Nat} {o : Oper} (ho : ops[i]? = some o) (hr : ∀ e ∈ o.after, Region.binds .any e = true → Listed listed e.on) : ∀ j, Bit bs i j → Listed listed j := by
  intro j hj
  obtain ⟨e, he, hb, h1⟩ := ((hF.st i o ho).bits j).1 hj
  rcases h1 with rfl | h1
  · exact hr e he hb
  · exact h.down _ _ (hr e he hb) h1

/-- The silent steps come to the same at every stage. -/
theorem silent_any (hF : Facts E ops bs a0 m0 recs pn af mf) {g0 g : G} {listed : Array Bool} {act : Act} {w : World} {c : Nat} {pb : Nat → Nat} (h : DInv E w0 ds ops bs a0 m0 recs pn g0 g listed act w c pb)
    (hc : c = recs.length ∨ ∃ r, recs[c]? = some r ∧ r.mv = true ∧ ¬ Listed listed r.i) {v : Nat} {r : SRec} (hr : recs[v]? = some r) (hni : ¬ Listed listed r.i) (hanc : ∀ j, Bit bs r.i j → Listed listed j) (hs : r.mv = false) :
    StepG E ops r.o r.a (memAt recs m0 c) r.x (memAt recs m0 c) := by
  obtain ⟨ho, hra, hrm, hone, hkeep, _⟩ := hF.tr.all v r hr
  have hvl : v < recs.length := (List.getElem?_eq_some_iff.1 hr).1
  rw [hkeep hs] at hone
  have hfin : ∀ m, m = r.m → StepG E ops r.o r.a m r.x m := fun m e => by rw [e]; exact hone
  rcases Nat.lt_or_ge v c with hlt | hge
  · rcases last_loud (recs := recs) (u := v) c (by omega) h.cl with h1 | ⟨k, q, h1, h2, h3, h4, h5⟩
    · exact hfin _ ((memAt_same c (by omega) h.cl h1).trans hrm.symm)
    · have hkv : v ≠ k := fun e => by
        subst e
        rw [hr] at h3
        rw [← Option.some.inj h3, hs] at h4
        cases h4
      have hp := hF.pair v k r q (by omega) hr h3
      unfold PairS at hp
      simp only [hs, h4, Bool.false_eq_true, if_false, if_true] at hp
      rcases hp.2.2 with hb | hi
      · exact absurd (h.down _ _ (h.ahead k q h3 h2 h4) hb) hni
      · have hm : memAt recs m0 c = q.m' := by
          rw [memAt_same (u := k + 1) c (by omega) h.cl (fun j q' hj1 hj2 hq' => h5 j q' (by omega) hj2 hq'), memAt_succ h3, if_pos h4]
        rw [hm]
        exact hi
  · rcases hc with rfl | ⟨l, hl, hll, hln⟩
    · omega
    · have hcv : c ≠ v := fun e => by
        subst e
        rw [hr] at hl
        rw [← Option.some.inj hl, hs] at hll
        cases hll
      have hp := hF.pair c v l r (by omega) hl hr
      unfold PairS at hp
      simp only [hs, hll, Bool.false_eq_true, if_false, if_true] at hp
      rcases hp.2.2 with hb | hi
      · exact absurd (hanc _ hb) hln
      · rw [← (hF.tr.all c l hl).2.2.1]
        exact hi

/-- What hangs on a variable that waits waits too. -/
theorem float_ahead (hF : Facts E ops bs a0 m0 recs pn af mf) {g0 g : G} {listed : Array Bool} {act : Act} {w : World} {c : Nat} {pb : Nat → Nat} (h : DInv E w0 ds ops bs a0 m0 recs pn g0 g listed act w c pb)
    (hc : c = recs.length ∨ ∃ r, recs[c]? = some r ∧ r.mv = true ∧ ¬ Listed listed r.i) {v : Nat} {r : SRec} (hr : recs[v]? = some r) (hanc : ∀ j, Bit bs r.i j → Listed listed j) :
    ∀ (u : Nat) (q : SRec) (t : Nat), recs[u]? = some q → Listed listed q.i → floats q.o = true → q.o.dst = some t → t ∈ r.o.looksAt ops → u < c := by
  intro u q t hq hl hf ht hm
  rcases Nat.lt_or_ge u c with hlt | hge
  · exact hlt
  · rcases hc with rfl | ⟨l, hl', hll, hln⟩
    · have := (List.getElem?_eq_some_iff.1 hq).1
      omega
    · have hcu : c ≠ u := fun e => by
        subst e
        rw [hq] at hl'
        exact hln (Option.some.inj hl' ▸ hl)
      have hp := hF.pair c u l q (by omega) hl' hq
      unfold PairS at hp
      simp only [hll, ((hF.tr.all u q hq).2.2.2.2.2.2 hf).1, hf, if_true] at hp
      exact absurd (hanc _ (hp.2.2 r (List.mem_of_getElem? hr) t ht hm)) hln

theorem DInv.step (hF : Facts E ops bs a0 m0 recs pn af mf) {Q : Exit → Act → World → Prop}
    {g0 g : G} {listed : Array Bool} {act : Act} {w : World} {c : Nat} {pb : Nat → Nat} (h : DInv E w0 ds ops bs a0 m0 recs pn g0 g listed act w c pb) {i : Nat} (hready : i ∈ Region.ready .any ops listed)
    (hpan : ∀ p k, pn = some (p, k) → ∀ g act w v, g0.le g → Inv E w0 g p.m' w → Rep g p.x v → act.defers = ds → Q (.panic [{ v := v, recovered := false }]) act w) :
    wpOp E.P ops Q i (fun act' w' => ∃ g' c' pb', DInv E w0 ds ops bs a0 m0 recs pn g0 g' (listed.setIfInBounds i true) act' w' c' pb') act w := by
  obtain ⟨o, ho, hni, hedge⟩ := (ready_spec h.size).1 hready
  have hanc := anc_listed hF h ho hedge
  obtain ⟨g1, c1, h1, hc1⟩ := DInv.norm hF _ g c rfl h
  have hil := (Array.getElem?_eq_some_iff.1 ho).1
  rcases hF.cover i hil with ⟨v, r, hr, rfl⟩ | hsk | ⟨p, k, hp, rfl⟩
  · obtain ⟨ho', hra, hrm, hone, _, _, hflt⟩ := hF.tr.all v r hr
    rw [ho] at ho'
    obtain rfl := Option.some.inj ho'
    have hvl : v < recs.length := (List.getElem?_eq_some_iff.1 hr).1
    cases hf : floats r.o with
    | true =>
      obtain ⟨_, e, z, hop, hz, hx, hm⟩ := hflt hf
      have hg : r.o.guard = none := by
        unfold floats at hf
        split at hf
        · rename_i hg; exact hg
        · cases hf
      unfold wpOp
      rw [ho]
      simp only
      rw [if_pos (by simp [Region.wanted, hg])]
      left
      have hrun : (execOp act.eval r.o).run E.P w = .ok (.value (.pointer (some ⟨w.heap.size, 0, none⟩))) (w.alloc (.cells z.cells e)) := by
        simp [execOp, hop, Instr.alloc, run_tzero hz, run_newVar]
      unfold Oper.wp
      rw [hrun]
      exact ⟨_, _, _, h1.float hF hr hni hanc hf hx hm⟩
    | false =>
      have hlook : ∀ t ∈ r.o.looksAt ops, SlotRel g1 r.a act t := by
        rw [hra]
        refine h1.looks hF ho hni hanc (Nat.le_of_lt hvl) (fun u q hq hu he => ?_) (fun u q hq hu hb => ?_) (fun u q hq hu hb => ?_) (float_ahead hF h1 hc1 hr hanc)
        · have := (hF.uniq hq hr he).1; omega
        · have hp := hF.pair u v q r hu hq hr
          exact hp.2.1 hb
        · rcases Nat.eq_or_lt_of_le hu with rfl | hlt
          · rw [hr] at hq
            obtain rfl := Option.some.inj hq
            exact hni (hanc _ hb)
          · have hp := hF.pair v u r q hlt hr hq
            exact hp.2.1 hb
      cases hs : r.mv with
      | false =>
        have hone' := silent_any hF h1 hc1 hr hni hanc hs
        refine hone'.run w0 g1 act w h1.inv hlook _ ho _ _ fun val w' g' hle hi hrep => ?_
        exact ⟨g', c1, pb, h1.put hF hr hni hanc hle hi hrep (.inl ⟨hs, rfl⟩) hf⟩
      | true =>
        have hcv : c1 = v := by
          rcases Nat.lt_trichotomy c1 v with hlt | rfl | hgt
          · rcases hc1 with rfl | ⟨l, hl, hll, hln⟩
            · omega
            · have hp := hF.pair c1 v l r hlt hl hr
              unfold PairS at hp
              simp only [hll, hs, hf, if_true, Bool.false_eq_true, if_false] at hp
              exact absurd (hanc _ hp.2.2) hln
          · rfl
          · exact absurd (h1.ahead v r hr hgt hs) hni
        subst hcv
        rw [hrm] at hone
        refine hone.run w0 g1 act w h1.inv hlook _ ho _ _ fun val w' g' hle hi hrep => ?_
        refine ⟨g', c1 + 1, pb, h1.put hF hr hni hanc hle ?_ hrep (.inr ⟨hs, rfl, rfl⟩) hf⟩
        rw [memAt_succ hr, if_pos hs]
        exact hi
  · cases pn with
    | none => simp [skippedS] at hsk
    | some p => exact absurd (hanc _ hsk) (h.nopan p.1 p.2 rfl)
  · obtain ⟨hk, ho', hpa, hpm, hone⟩ := hF.tr.pan p k hp
    obtain ⟨hfront, hback, hne⟩ := hF.pan p k hp
    rw [ho] at ho'
    obtain rfl := Option.some.inj ho'
    have hcl : c1 = recs.length := by
      rcases hc1 with rfl | ⟨l, hl, hll, hln⟩
      · rfl
      · rcases Nat.lt_or_ge c1 k with hlt | hge
        · exact absurd (hanc _ (hfront c1 l hl hlt hll)) hln
        · rw [(hback c1 l hl hge).1] at hll; cases hll
    have hmem : memAt recs m0 c1 = p.m := by
      rw [hpm, hcl]
      exact memAt_same _ hk (Nat.le_refl _) fun j q hj1 hj2 hq => (hback j q hq hj1).1
    have hlook : ∀ t ∈ p.o.looksAt ops, SlotRel g1 p.a act t := by
      rw [hpa]
      refine h1.looks hF ho hni hanc hk (fun u q hq _ => (hne u q hq).1) (fun u q hq hu hb => (hne u q hq).2 hb) (fun u q hq hu hb => (hback u q hq hu).2 hb) (fun u q t hq _ _ _ _ => ?_)
      · rw [hcl]; exact (List.getElem?_eq_some_iff.1 hq).1
    rw [← hmem] at hone
    refine hone.run w0 g1 act w h1.inv hlook _ ho _ _ fun val w' g' hle hi hrep => ?_
    have hX : ∀ b ob, g0.X b = some ob → g'.X b = some ob := fun b ob hb => by rw [hle.3]; exact h1.xsub b ob hb
    exact hpan p k hp (g'.withX g0.X) act w' val ⟨fun a v hv => hle.1 _ _ (h1.sub.1 _ _ hv), fun i t ht => hle.2 _ _ (h1.sub.2 _ _ ht), rfl, hle.4.trans h1.sub.3, hle.5.trans h1.sub.4⟩ (hi.withX fun b ob hb => hi.ext b ob (hX b ob hb)) (Rep.msub (G.sub_withX _) _ hrep) h1.defers

/-- The end of a region. -/
theorem DInv.fin (hF : Facts E ops bs a0 m0 recs pn af mf) {Q : Exit → Act → World → Prop}
    {g0 g : G} {listed : Array Bool} {act : Act} {w : World} {c : Nat} {pb : Nat → Nat} (h : DInv E w0 ds ops bs a0 m0 recs pn g0 g listed act w c pb) (hall : ∀ i, i < ops.size → Listed listed i)
    (hfin : pn = none → ∀ g act w, g0.le g → Inv E w0 g mf w → RepL g af act.tmps.toList → act.defers = ds → Q .normal act w) : Q .normal act w := by
  have hpn : pn = none := by
    cases hp : pn with
    | none => rfl
    | some p => exact absurd (hall _ (Array.getElem?_eq_some_iff.1 (hF.tr.pan p.1 p.2 hp).2.1).1) (h.nopan p.1 p.2 hp)
  obtain ⟨g1, c1, h1, hc1⟩ := DInv.norm hF _ g c rfl h
  have hal : ∀ (u : Nat) (r : SRec), recs[u]? = some r → Listed listed r.i := fun u r hr => hall _ (Array.getElem?_eq_some_iff.1 (hF.tr.all u r hr).1).1
  have hcl : c1 = recs.length := by
    rcases hc1 with rfl | ⟨l, hl, hll, hln⟩
    · rfl
    · exact absurd (hal c1 l hl) hln
  subst hcl
  refine hfin hpn (g1.withX g0.X) act w ⟨h1.sub.1, h1.sub.2, rfl, h1.sub.3, h1.sub.4⟩ ?_ ?_ h1.defers
  · rw [hF.tr.mem]
    exact h1.inv.withX fun b ob hb => h1.inv.ext b ob (h1.xsub b ob hb)
  · rw [hF.tr.fr]
    refine .of_get ((hF.frLen (Nat.le_refl _)).trans (h1.len.symm.trans Array.length_toList.symm)) fun t x v hx hv => ?_
    rw [Array.getElem?_toList] at hv
    refine Rep.msub (G.sub_withX _) _ ?_
    have htl : t < a0.length := by
      have := (List.getElem?_eq_some_iff.1 hx).1
      rw [hF.frLen (Nat.le_refl _)] at this
      exact this
    rcases (slotAt (recs := recs) (a0 := a0) recs.length (Nat.le_refl _) t).2 with ⟨k1, k2⟩ | ⟨u, q, k1, k2, k3, k4⟩
    · rw [k2] at hx
      exact h1.old t v x hv hx fun u q hq _ => k1 u q (List.getElem?_eq_some_iff.1 hq).1 hq
    · rw [k4 htl] at hx
      obtain rfl := Option.some.inj hx
      exact h1.slot u q k2 (hal u q k2) (fun _ => k1) t v k3 hv

def unl (l : List Bool) : Nat := (l.filter fun b => !b).length
theorem unl_set : ∀ (l : List Bool) (i : Nat), l[i]? = some false → unl (l.set i true) + 1 = unl l
  | [], i, h => by simp at h
  | b :: l, 0, h => by
    simp only [List.getElem?_cons_zero, Option.some.injEq] at h
    subst h
    simp [unl]
  | b :: l, i + 1, h => by
    simp only [List.getElem?_cons_succ] at h
    have ih := unl_set l i h
    simp only [unl, List.set_cons_succ, List.filter_cons] at ih ⊢
    cases b <;> simp <;> omega
theorem unl_zero {l : List Bool} (h : unl l = 0) : ∀ i, i < l.length → l[i]? = some true := by
  intro i hi
  rw [List.getElem?_eq_getElem hi]
  have hm : l[i] ∈ l := List.getElem_mem hi
  cases hb : l[i] with
  | true => rfl
  | false =>
    have : l[i] ∈ l.filter fun b => !b := List.mem_filter.2 ⟨hm, by rw [hb]; rfl⟩
    unfold unl at h
    rw [List.length_eq_zero_iff.1 h] at this
    cases this

theorem draw_any (hF : Facts E ops bs a0 m0 recs pn af mf) {Q : Exit → Act → World → Prop} {g0 : G}
    (hfin : pn = none → ∀ g act w, g0.le g → Inv E w0 g mf w → RepL g af act.tmps.toList → act.defers = ds → Q .normal act w)
    (hpan : ∀ p k, pn = some (p, k) → ∀ g act w v, g0.le g → Inv E w0 g p.m' w → Rep g p.x v → act.defers = ds → Q (.panic [{ v := v, recovered := false }]) act w) :
    ∀ (fuel : Nat) (listed : Array Bool) (act : Act) (w : World), unl listed.toList ≤ fuel → (∃ g c pb, DInv E w0 ds ops bs a0 m0 recs pn g0 g listed act w c pb) → wpAny E.P .any ops Q fuel listed act w
  | 0, listed, act, w, hu, ⟨g, c, pb, h⟩ => by
    have hall : ∀ i, i < ops.size → Listed listed i := fun i hi => by
      have := unl_zero (Nat.le_zero.1 hu) i (by rw [Array.length_toList, h.size]; exact hi)
      rw [Array.getElem?_toList] at this
      unfold Listed
      rw [Array.getD_eq_getD_getElem?, this]
      rfl
    refine ⟨?_, h.fin hF hall hfin⟩
    cases hr : Region.ready .any ops listed with
    | nil => rfl
    | cons i l =>
      have hm : i ∈ Region.ready .any ops listed := by rw [hr]; simp
      obtain ⟨o, ho, hn, _⟩ := (ready_spec h.size).1 hm
      exact absurd (hall i (Array.getElem?_eq_some_iff.1 ho).1) hn
  | fuel + 1, listed, act, w, hu, ⟨g, c, pb, h⟩ => by
    refine ⟨fun hr => h.fin hF (all_listed hF h.size hr) hfin, fun i hi => ?_⟩
    refine wpOp_mono (fun act' w' hd => ?_) (h.step hF hi hpan)
    refine draw_any hF hfin hpan fuel _ act' w' ?_ hd
    obtain ⟨o, ho, hn, _⟩ := (ready_spec h.size).1 hi
    have hil : i < listed.size := by rw [h.size]; exact (Array.getElem?_eq_some_iff.1 ho).1
    have hf : listed.toList[i]? = some false := by
      rw [Array.getElem?_toList, Array.getElem?_eq_getElem hil]
      unfold Listed at hn
      rw [Array.getD_eq_getD_getElem?, Array.getElem?_eq_getElem hil] at hn
      simpa using hn
    have := unl_set _ _ hf
    rw [Array.toList_setIfInBounds]
    omega


end
end Go.Vm.Sy
