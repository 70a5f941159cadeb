/- The abstract machine: regions that draw their order: every order. -/
import Derived.Test.YtmppnmffbmpcpaaDoorVmExD
set_option linter.unusedVariables false
set_option linter.unusedSimpArgs false
namespace Go.Vm
open Go.RowKit
section
variable {E : Env} {w0 : World} {call : ACall} {fn : FuncId} {ops : Array Oper} {bs : Array Nat}

/-- A slot, abstract and concrete. -/
def SlotRel (g : G) (a : AF) (act : Act) (t : Nat) : Prop := (a[t]? = none ∧ act.tmps[t]? = none) ∨ ∃ x v, a[t]? = some x ∧ act.tmps[t]? = some v ∧ Rep g x v

theorem look_eval {g : G} {a : AF} {act : Act} {o : Oper} (h : ∀ t ∈ o.looksAt ops, SlotRel g a act t) :
    (∀ x ∈ o.op.operands, Rep g (aeval a x) (act.eval x)) ∧ Region.wanted o (ayielded ops a) = Region.wanted o (yielded ops act.tmps) := by
  constructor
  · intro x hx
    cases x with
    | tmp t =>
      have hm : t ∈ o.looksAt ops := by
        unfold Oper.looksAt
        rw [List.mem_append]
        exact .inl (List.mem_filterMap.2 ⟨.tmp t, by simpa using hx, rfl⟩)
      simp only [aeval, Act.eval]
      rw [List.getD_eq_getElem?_getD, Array.getD_eq_getD_getElem?]
      rcases h t hm with ⟨h1, h2⟩ | ⟨y, v, h1, h2, h3⟩
      · rw [h1, h2]
        simp only [Option.getD_none, Rep]
      · rw [h1, h2]
        exact h3
    | const v => simp only [aeval, Act.eval, Rep]
    | global n => simp only [aeval, Act.eval, Rep]
    | func f => simp only [aeval, Act.eval, Rep]
  · unfold Region.wanted
    cases hg : o.guard with
    | none => rfl
    | some p =>
      obtain ⟨j, want⟩ := p
      simp only
      rw [yielded_rep (g := g) ops j fun t ht => h t ?_]
      unfold Oper.looksAt
      rw [List.mem_append]
      refine .inr ?_
      rw [hg]
      simp only
      rw [ht]
      simp

theorem one_wp (he : EnvOk E) (hcall : CallOk E call) (hbod : Bodied E call) {g : G} {m : AM} {w : World} (hi : Inv E w0 g m w) {i : Nat} {o : Oper} (ho : ops[i]? = some o) {a : AF} {act : Act}
    (hl : ∀ t ∈ o.looksAt ops, SlotRel g a act t) {res : ARes} (h : aone E call fn ops o a m = some res) {K : Act → World → Prop} {Q : Exit → Act → World → Prop}
    (hK : ∀ x m' v w' g', res = .ret x m' → g.le g' → Inv E w0 g' m' w' → Rep g' x v → K (act.put o.dst v) w')
    (hQ : ∀ x m' w' g', res = .pan x m' → g.le g' → Inv E w0 g' m' w' → Q (.panic [{ v := x, recovered := false }]) act w') : wpOp E.P ops Q i K act w := by
  obtain ⟨h1, h2⟩ := look_eval hl
  unfold wpOp
  rw [ho]
  simp only
  unfold aone at h
  rw [h2] at h
  split at h
  · rename_i hw
    rw [if_pos hw]
    exact .inl (aop_wp he hcall hbod hi h1 h hK hQ)
  · rename_i hw
    rw [if_neg hw]
    obtain rfl := Option.some.inj h
    exact hK _ _ undef w g rfl (.refl g) hi (by simp only [Rep])

variable {a0 : AF} {m0 : AM} {recs : List DRec} {pn : Option (DRec × Nat)} {af : AF} {mf : AM}

def Listed (l : Array Bool) (i : Nat) : Prop := l.getD i false = true
def Bit (bs : Array Nat) (i j : Nat) : Prop := (bs.getD i 0).testBit j = true

/-- What stands when some operations have been carried out, the first 'c' steps of the text among them. -/
structure DInv (E : Env) (w0 : World) (fn : FuncId) (ops : Array Oper) (bs : Array Nat) (a0 : AF) (m0 : AM) (recs : List DRec) (pn : Option (DRec × Nat)) (g0 g : G) (listed : Array Bool) (act : Act) (w : World) (c : Nat) (pb : Nat → Nat) : Prop where
  sub : g0.sub g
  inv : Inv E w0 g (memAt E fn recs m0 c) w
  size : listed.size = ops.size
  down : ∀ i j, Listed listed i → Bit bs i j → Listed listed j
  nopan : ∀ p k, pn = some (p, k) → ¬ Listed listed p.i
  len : act.tmps.size = a0.length
  defers : act.defers = []
  cl : c ≤ recs.length
  ahead : ∀ (u : Nat) (r : DRec), recs[u]? = some r → u < c → loud E fn r.o = true → Listed listed r.i
  later : ∀ (u : Nat) (r : DRec), recs[u]? = some r → c ≤ u → loud E fn r.o = true → floats r.o = false → ¬ Listed listed r.i
  slot : ∀ (u : Nat) (r : DRec), recs[u]? = some r → Listed listed r.i → (floats r.o = true → u < c) → ∀ t v, r.o.dst = some t → act.tmps[t]? = some v → Rep g r.x v
  old : ∀ t v x, act.tmps[t]? = some v → a0[t]? = some x → (∀ (u : Nat) (r : DRec), recs[u]? = some r → Listed listed r.i → r.o.dst ≠ some t) → Rep g x v
  xsub : ∀ b o, g0.X b = some o → g.X b = some o
  pend : ∀ (u : Nat) (r : DRec), recs[u]? = some r → Listed listed r.i → floats r.o = true → c ≤ u → ∃ cs e, g.X (pb u) = some (.cells cs e) ∧ g0.X (pb u) = none ∧
    r.x = .ptr r.m.length 0 ∧ r.m' = r.m ++ [.wr (cs.toList.map .v) e false] ∧ ∀ t v, r.o.dst = some t → act.tmps[t]? = some v → v = .pointer (some ⟨pb u, 0, none⟩)
  distinct : ∀ (u u' : Nat) (r r' : DRec), recs[u]? = some r → recs[u']? = some r' → Listed listed r.i → Listed listed r'.i → floats r.o = true → floats r'.o = true → c ≤ u → c ≤ u' → u ≠ u' → pb u ≠ pb u'

/-- All that the checks say. -/
structure Facts (E : Env) (call : ACall) (fn : FuncId) (ops : Array Oper) (bs : Array Nat) (a0 : AF) (m0 : AM) (recs : List DRec) (pn : Option (DRec × Nat)) (a : AF) (m : AM) : Prop where
  tr : TrFacts E call fn ops a0 m0 recs pn a m
  st : ∀ i o, ops[i]? = some o → StFacts ops bs i o
  pair : ∀ (u v : Nat) (r q : DRec), u < v → recs[u]? = some r → recs[v]? = some q → pairOk E call fn ops bs recs r q = true
  pan : ∀ p k, pn = some (p, k) → loud E fn p.o = true ∧ (∀ (u : Nat) (r : DRec), recs[u]? = some r → u < k → loud E fn r.o = true → Bit bs p.i r.i) ∧
    (∀ (u : Nat) (r : DRec), recs[u]? = some r → k ≤ u → loud E fn r.o = false ∧ ¬ Bit bs p.i r.i) ∧ ∀ (u : Nat) (r : DRec), recs[u]? = some r → r.i ≠ p.i ∧ ¬ Bit bs r.i p.i
  cover : ∀ i, i < ops.size → (∃ (u : Nat) (r : DRec), recs[u]? = some r ∧ r.i = i) ∨ skipped bs pn i = true ∨ ∃ p k, pn = some (p, k) ∧ i = p.i

theorem floats_loud {o : Oper} (h : floats o = true) : loud E fn o = true ∧ o.guard = none ∧ ∃ e, o.op = .alloc e := by
  unfold floats at h
  split at h
  · rename_i e ho hg
    exact ⟨by simp [loud, ho], hg, e, ho⟩
  · cases h

theorem float_one {o : Oper} (h : floats o = true) {a : AF} {m m' : AM} {x : AV} (hx : aone E call fn ops o a m = some (.ret x m')) :
    ∃ e z, o.op = .alloc e ∧ o.guard = none ∧ tzero E e = some z ∧ x = .ptr m.length 0 ∧ m' = m ++ [.wr (z.cells.toList.map .v) e false] := by
  obtain ⟨_, hg, e, he⟩ := floats_loud (E := E) (fn := fn) h
  unfold aone at hx
  rw [if_pos (by simp [Region.wanted, hg])] at hx
  simp only [aop, he, Option.map_eq_some_iff, ARes.ret.injEq] at hx
  obtain ⟨z, hz, h1, h2⟩ := hx
  exact ⟨e, z, he, hg, hz, h1.symm, h2.symm⟩

theorem Facts.uniq (hF : Facts E call fn ops bs a0 m0 recs pn af mf) {u v : Nat} {r q : DRec} (hr : recs[u]? = some r) (hq : recs[v]? = some q) (h : r.i = q.i) : u = v ∧ r = q := by
  rcases Nat.lt_trichotomy u v with hlt | rfl | hgt
  · have := hF.pair u v r q hlt hr hq
    simp [pairOk, h] at this
  · rw [hr] at hq
    exact ⟨rfl, Option.some.inj hq⟩
  · have := hF.pair v u q r hgt hq hr
    simp [pairOk, h] at this

/-- What waits and may come, comes. -/
theorem DInv.norm (hF : Facts E call fn ops bs a0 m0 recs pn af mf) {g0 : G} {listed : Array Bool} {act : Act} {w : World} {pb : Nat → Nat} : ∀ (k : Nat) (g : G) (c : Nat), recs.length - c = k →
    DInv E w0 fn ops bs a0 m0 recs pn g0 g listed act w c pb → ∃ g' c', DInv E w0 fn ops bs a0 m0 recs pn g0 g' listed act w c' pb ∧ (c' = recs.length ∨ ∃ r, recs[c']? = some r ∧ loud E fn r.o = true ∧ ¬ Listed listed r.i)
  | 0, g, c, hk, h => ⟨g, c, h, .inl (by have := h.cl; omega)⟩
  | k + 1, g, c, hk, h => by
    have hlt : c < recs.length := by omega
    have hr : recs[c]? = some recs[c] := List.getElem?_eq_getElem hlt
    generalize recs[c] = r at hr
    have hmem := memAt_succ (E := E) (fn := fn) (m0 := m0) hr
    cases hlo : loud E fn r.o with
    | false =>
      rw [hlo] at hmem
      simp only [Bool.false_eq_true, if_false] at hmem
      have hnf : floats r.o = false := by
        cases hf : floats r.o with
        | false => rfl
        | true => rw [(floats_loud hf).1] at hlo; cases hlo
      refine DInv.norm hF k g (c + 1) (by omega) ⟨h.sub, by rw [hmem]; exact h.inv, h.size, h.down, h.nopan, h.len, h.defers, hlt, ?_, ?_, ?_, h.old, h.xsub, ?_, ?_⟩
      · intro u q hq hu hl
        by_cases hu' : u = c
        · subst hu'
          rw [hr] at hq
          obtain rfl := Option.some.inj hq
          rw [hlo] at hl
          cases hl
        · exact h.ahead u q hq (by omega) hl
      · exact fun u q hq hu => h.later u q hq (by omega)
      · intro u q hq hl hfl
        refine h.slot u q hq hl fun hf => ?_
        have := hfl hf
        by_cases hu' : u = c
        · subst hu'
          rw [hr] at hq
          obtain rfl := Option.some.inj hq
          rw [hnf] at hf
          cases hf
        · omega
      · exact fun u q hq hl hf hu => h.pend u q hq hl hf (by omega)
      · exact fun u u' q q' h1 h2 h3 h4 h5 h6 h7 h8 => h.distinct u u' q q' h1 h2 h3 h4 h5 h6 (by omega) (by omega)
    | true =>
      by_cases hli : Listed listed r.i
      · have hf : floats r.o = true := by
          cases hf : floats r.o with
          | true => rfl
          | false => exact absurd hli (h.later c r hr (Nat.le_refl _) hlo hf)
        obtain ⟨cs, e, hX, hX0, hx, hm', hptr⟩ := h.pend c r hr hli hf (Nat.le_refl _)
        obtain ⟨ho, hra, hrm, hone⟩ := hF.tr.all c r hr
        obtain ⟨g', k1, k2, k3, k4⟩ := h.inv.come hX (.of_vals cs.toList)
        rw [hlo] at hmem
        simp only [if_true] at hmem
        have hinv : Inv E w0 g' (memAt E fn recs m0 (c + 1)) w := by
          rw [hmem, hm', hrm]
          exact k3
        refine DInv.norm hF k g' (c + 1) (by omega) ⟨h.sub.trans k1, hinv, h.size, h.down, h.nopan, h.len, h.defers, hlt, ?_, ?_, ?_, ?_, ?_, ?_, ?_⟩
        · intro u q hq hu hl
          by_cases hu' : u = c
          · subst hu'
            rw [hr] at hq
            obtain rfl := Option.some.inj hq
            exact hli
          · exact h.ahead u q hq (by omega) hl
        · exact fun u q hq hu => h.later u q hq (by omega)
        · intro u q hq hl hfl t v ht hv
          by_cases hu' : u = c
          · subst hu'
            rw [hr] at hq
            obtain rfl := Option.some.inj hq
            rw [hptr t v ht hv, hx]
            simp only [Rep]
            exact ⟨_, rfl, by rw [hrm]; exact k4⟩
          · exact Rep.msub k1 _ (h.slot u q hq hl (fun hf' => by have := hfl hf'; omega) t v ht hv)
        · exact fun t v x hv hx hno => Rep.msub k1 _ (h.old t v x hv hx hno)
        · intro b o hb
          rw [k2]
          rw [if_neg (fun e => by rw [e, hX0] at hb; cases hb)]
          exact h.xsub b o hb
        · intro u q hq hl hf' hu
          obtain ⟨cs', e', hX', rest⟩ := h.pend u q hq hl hf' (by omega)
          refine ⟨cs', e', ?_, rest⟩
          rw [k2, if_neg (h.distinct u c q r hq hr hl hli hf' hf (by omega) (Nat.le_refl _) (by omega))]
          exact hX'
        · exact fun u u' q q' h1 h2 h3 h4 h5 h6 h7 h8 => h.distinct u u' q q' h1 h2 h3 h4 h5 h6 (by omega) (by omega)
      · exact ⟨g, c, h, .inr ⟨r, hr, hlo, hli⟩⟩

theorem Facts.frLen (hF : Facts E call fn ops bs a0 m0 recs pn af mf) {v : Nat} (hv : v ≤ recs.length) : (frAt recs a0 v).length = a0.length := (slotAt v hv 0).1

/-- What a step looks at is what the text's order has there. -/
theorem DInv.looks (hF : Facts E call fn ops bs a0 m0 recs pn af mf) {g0 g : G} {listed : Array Bool} {act : Act} {w : World} {c : Nat} {pb : Nat → Nat} (h : DInv E w0 fn ops bs a0 m0 recs pn g0 g listed act w c pb)
    {i : Nat} {o : Oper} (ho : ops[i]? = some o) (hni : ¬ Listed listed i) (hanc : ∀ j, Bit bs i j → Listed listed j) {v : Nat} (hv : v ≤ recs.length)
    (hself : ∀ (u : Nat) (q : DRec), recs[u]? = some q → u < v → q.i ≠ i) (hback : ∀ (u : Nat) (q : DRec), recs[u]? = some q → u < v → ¬ Bit bs q.i i) (hfwd : ∀ (u : Nat) (q : DRec), recs[u]? = some q → v ≤ u → ¬ Bit bs i q.i)
    (hfl : ∀ (u : Nat) (q : DRec) (t : Nat), recs[u]? = some q → Listed listed q.i → floats q.o = true → q.o.dst = some t → t ∈ o.looksAt ops → u < c) :
    ∀ t ∈ o.looksAt ops, SlotRel g (frAt recs a0 v) act t := by
  intro (t : Nat) ht
  have hst := hF.st i o ho
  obtain ⟨hlen, hs⟩ := slotAt (recs := recs) (a0 := a0) v hv t
  by_cases htl : t < a0.length
  · obtain ⟨val, hv'⟩ : ∃ val, act.tmps[t]? = some val := ⟨_, Array.getElem?_eq_getElem (by rw [h.len]; exact htl)⟩
    refine .inr ?_
    rcases hs with ⟨h1, h2⟩ | ⟨u, q, h1, h2, h3, h4⟩
    · refine ⟨a0[t], val, h2.trans (List.getElem?_eq_getElem htl), hv', h.old t val _ hv' (List.getElem?_eq_getElem htl) fun u q hq hl hd => ?_⟩
      by_cases hu : u < v
      · exact h1 u q hu hq hd
      · have hqi : q.i ≠ i := fun e => hni (e ▸ hl)
        rcases hst.looks q.i q.o t hqi (hF.tr.all u q hq).1 hd ht with hb | hb
        · exact hfwd u q hq (by omega) hb
        · exact hni (h.down _ _ hl hb)
    · have hback' := hback u q h2 h1
      have hqi : q.i ≠ i := hself u q h2 h1
      rcases hst.looks q.i q.o t hqi (hF.tr.all u q h2).1 h3 ht with hb | hb
      · have hl := hanc _ hb
        exact ⟨q.x, val, h4 htl, hv', h.slot u q h2 hl (fun hf => hfl u q t h2 hl hf h3 ht) t val h3 hv'⟩
      · exact absurd hb hback'
  · refine .inl ⟨?_, ?_⟩
    · rw [List.getElem?_eq_none_iff]; omega
    · rw [Array.getElem?_eq_none_iff, h.len]; omega

theorem listed_set {l : Array Bool} {i j : Nat} (hi : i < l.size) : Listed (l.setIfInBounds i true) j ↔ j = i ∨ Listed l j := by
  unfold Listed
  rw [Array.getD_eq_getD_getElem?, Array.getD_eq_getD_getElem?, Array.getElem?_setIfInBounds]
  by_cases h : i = j
  · subst h
    simp [hi]
  · rw [if_neg h]
    constructor
    · exact .inr
    · rintro (e | h')
      · exact absurd e.symm h
      · exact h'

theorem put_get_ne {act : Act} {dst : Option Tmp} {v : Value} {t : Nat} (h : dst ≠ some t) : (act.put dst v).tmps[t]? = act.tmps[t]? := by
  cases dst with
  | none => rfl
  | some d =>
    simp only [Act.put]
    exact Array.getElem?_setIfInBounds_ne (fun e => h (by rw [e]))
theorem put_get_self {act : Act} {v u : Value} {t : Nat} (h : (act.put (some t) v).tmps[t]? = some u) : u = v := by
  simp only [Act.put, Array.getElem?_setIfInBounds_self] at h
  split at h
  · exact (Option.some.inj h).symm
  · cases h

/-- One step more. -/
theorem DInv.put (hF : Facts E call fn ops bs a0 m0 recs pn af mf) {g0 g g' : G} {listed : Array Bool} {act : Act} {w w' : World} {c c' : Nat} {pb : Nat → Nat} (h : DInv E w0 fn ops bs a0 m0 recs pn g0 g listed act w c pb)
    {v : Nat} {r : DRec} (hr : recs[v]? = some r) (hni : ¬ Listed listed r.i) (hanc : ∀ j, Bit bs r.i j → Listed listed j) (hle : g.le g') (hi : Inv E w0 g' (memAt E fn recs m0 c') w') {val : Value} (hval : Rep g' r.x val)
    (hc : (loud E fn r.o = false ∧ c' = c) ∨ (loud E fn r.o = true ∧ c = v ∧ c' = v + 1)) (hnf : floats r.o = false) :
    DInv E w0 fn ops bs a0 m0 recs pn g0 g' (listed.setIfInBounds r.i true) (act.put r.o.dst val) w' c' pb := by
  obtain ⟨ho, _, _, _⟩ := hF.tr.all v r hr
  have hil : r.i < listed.size := by rw [h.size]; exact (Array.getElem?_eq_some_iff.1 ho).1
  have hls : ∀ j, Listed (listed.setIfInBounds r.i true) j ↔ j = r.i ∨ Listed listed j := fun j => listed_set hil
  have hcc : c ≤ c' := by rcases hc with ⟨_, rfl⟩ | ⟨_, rfl, rfl⟩ <;> omega
  have hvl : v < recs.length := (List.getElem?_eq_some_iff.1 hr).1
  have hdst : ∀ (u : Nat) (q : DRec) (t : Nat), recs[u]? = some q → q.i ≠ r.i → q.o.dst = some t → r.o.dst ≠ some t := fun u q t hq hne ht => (hF.st r.i r.o ho).dst q.i q.o t hne (hF.tr.all u q hq).1 ht
  refine ⟨h.sub.trans hle.sub, hi, by rw [Array.size_setIfInBounds]; exact h.size, ?_, ?_, by rw [put_size]; exact h.len, by rw [put_defers']; exact h.defers, ?_, ?_, ?_, ?_, ?_, ?_, ?_, ?_⟩
  · intro i j hl hb
    rw [hls] at hl ⊢
    rcases hl with rfl | hl
    · exact .inr (hanc j hb)
    · exact .inr (h.down i j hl hb)
  · intro p k hp hl
    rw [hls] at hl
    rcases hl with he | hl
    · exact ((hF.pan p k hp).2.2.2 v r hr).1 he.symm
    · exact h.nopan p k hp hl
  · rcases hc with ⟨_, rfl⟩ | ⟨_, rfl, rfl⟩
    · exact h.cl
    · exact hvl
  · intro u q hq hu hlo
    rw [hls]
    by_cases huc : u < c
    · exact .inr (h.ahead u q hq huc hlo)
    · rcases hc with ⟨_, rfl⟩ | ⟨_, rfl, rfl⟩
      · exact absurd hu huc
      · have : u = c := by omega
        subst this
        rw [hr] at hq
        obtain rfl := Option.some.inj hq
        exact .inl rfl
  · intro u q hq hu hlo hf hl
    rw [hls] at hl
    rcases hl with he | hl
    · obtain ⟨rfl, rfl⟩ := hF.uniq hq hr he
      rcases hc with ⟨h1, _⟩ | ⟨_, rfl, rfl⟩
      · rw [h1] at hlo; cases hlo
      · omega
    · exact h.later u q hq (by omega) hlo hf hl
  · intro u q hq hl hfl t x ht hx
    rw [hls] at hl
    by_cases he : q.i = r.i
    · obtain ⟨rfl, rfl⟩ := hF.uniq hq hr he
      rw [ht] at hx
      rw [put_get_self hx]
      exact hval
    · rw [put_get_ne (hdst u q t hq he ht)] at hx
      refine Rep.mono hle _ (h.slot u q hq (hl.resolve_left he) (fun hf => ?_) t x ht hx)
      have := hfl hf
      rcases hc with ⟨_, rfl⟩ | ⟨_, rfl, rfl⟩
      · exact this
      · rcases Nat.lt_or_eq_of_le (Nat.le_of_lt_succ this) with h1 | rfl
        · exact h1
        · rw [hr] at hq
          exact absurd (by rw [Option.some.inj hq]) he
  · intro t x y hx hy hno
    have hrt : r.o.dst ≠ some t := hno v r hr ((hls _).2 (.inl rfl))
    rw [put_get_ne hrt] at hx
    exact Rep.mono hle _ (h.old t x y hx hy fun u q hq hl => hno u q hq ((hls _).2 (.inr hl)))
  · intro b o hb
    rw [hle.3]
    exact h.xsub b o hb
  · intro u q hq hl hf hu
    rw [hls] at hl
    have he : q.i ≠ r.i := fun e => by
      obtain ⟨rfl, rfl⟩ := hF.uniq hq hr e
      rw [hnf] at hf; cases hf
    obtain ⟨cs, e, k1, k2, k3, k4, k5⟩ := h.pend u q hq (hl.resolve_left he) hf (by omega)
    refine ⟨cs, e, by rw [hle.3]; exact k1, k2, k3, k4, fun t x ht hx => ?_⟩
    rw [put_get_ne (hdst u q t hq he ht)] at hx
    exact k5 t x ht hx
  · intro u u' q q' hq hq' hl hl' hf hf' hu hu' hne
    rw [hls] at hl hl'
    have he : q.i ≠ r.i := fun e => by
      obtain ⟨rfl, rfl⟩ := hF.uniq hq hr e
      rw [hnf] at hf; cases hf
    have he' : q'.i ≠ r.i := fun e => by
      obtain ⟨rfl, rfl⟩ := hF.uniq hq' hr e
      rw [hnf] at hf'; cases hf'
    exact h.distinct u u' q q' hq hq' (hl.resolve_left he) (hl'.resolve_left he') hf hf' (by omega) (by omega) hne

theorem ext_lt {g : G} {m : AM} {w : World} (hi : Inv E w0 g m w) {b : Nat} {o : Obj} (h : g.X b = some o) : b < w.heap.size := (Array.getElem?_eq_some_iff.1 (hi.ext b o h).1).1

/-- A variable is made, perhaps ahead of its turn. -/
theorem DInv.float (hF : Facts E call fn ops bs a0 m0 recs pn af mf) {g0 g : G} {listed : Array Bool} {act : Act} {w : World} {c : Nat} {pb : Nat → Nat} (h : DInv E w0 fn ops bs a0 m0 recs pn g0 g listed act w c pb)
    {v : Nat} {r : DRec} (hr : recs[v]? = some r) (hni : ¬ Listed listed r.i) (hanc : ∀ j, Bit bs r.i j → Listed listed j) (hf : floats r.o = true) {e : TypeId} {z : Value} (hx : r.x = .ptr r.m.length 0) (hm : r.m' = r.m ++ [.wr (z.cells.toList.map .v) e false]) :
    DInv E w0 fn ops bs a0 m0 recs pn g0 (g.withX fun b => if b = w.heap.size then some (.cells z.cells e) else g.X b) (listed.setIfInBounds r.i true) (act.put r.o.dst (.pointer (some ⟨w.heap.size, 0, none⟩))) (w.alloc (.cells z.cells e)) c
      (fun u => if u = v then w.heap.size else pb u) := by
  obtain ⟨ho, _, _, _⟩ := hF.tr.all v r hr
  have hil : r.i < listed.size := by rw [h.size]; exact (Array.getElem?_eq_some_iff.1 ho).1
  have hls : ∀ j, Listed (listed.setIfInBounds r.i true) j ↔ j = r.i ∨ Listed listed j := fun j => listed_set hil
  have hvl : v < recs.length := (List.getElem?_eq_some_iff.1 hr).1
  have hdst : ∀ (u : Nat) (q : DRec) (t : Nat), recs[u]? = some q → q.i ≠ r.i → q.o.dst = some t → r.o.dst ≠ some t := fun u q t hq hne ht => (hF.st r.i r.o ho).dst q.i q.o t hne (hF.tr.all u q hq).1 ht
  have hcv : c ≤ v := by
    rcases Nat.lt_or_ge v c with hlt | hge
    · exact absurd (h.ahead v r hr hlt (floats_loud hf).1) hni
    · exact hge
  have hsub : g.sub (g.withX fun b => if b = w.heap.size then some (.cells z.cells e) else g.X b) := G.sub_withX _
  have huv : ∀ (u : Nat) (q : DRec), recs[u]? = some q → q.i ≠ r.i → u ≠ v := fun u q hq hne e => by
    subst e
    rw [hr] at hq
    exact hne (by rw [Option.some.inj hq])
  refine ⟨h.sub.trans hsub, h.inv.wait _, by rw [Array.size_setIfInBounds]; exact h.size, ?_, ?_, by rw [put_size]; exact h.len, by rw [put_defers']; exact h.defers, h.cl, ?_, ?_, ?_, ?_, ?_, ?_, ?_⟩
  · intro i j hl hb
    rw [hls] at hl ⊢
    rcases hl with rfl | hl
    · exact .inr (hanc j hb)
    · exact .inr (h.down i j hl hb)
  · intro p k hp hl
    rw [hls] at hl
    rcases hl with he | hl
    · exact ((hF.pan p k hp).2.2.2 v r hr).1 he.symm
    · exact h.nopan p k hp hl
  · intro u q hq hu hlo
    rw [hls]
    exact .inr (h.ahead u q hq hu hlo)
  · intro u q hq hu hlo hnf hl
    rw [hls] at hl
    rcases hl with he | hl
    · obtain ⟨rfl, rfl⟩ := hF.uniq hq hr he
      rw [hf] at hnf; cases hnf
    · exact h.later u q hq hu hlo hnf hl
  · intro u q hq hl hfl t x ht hx'
    rw [hls] at hl
    by_cases he : q.i = r.i
    · obtain ⟨rfl, rfl⟩ := hF.uniq hq hr he
      have := hfl hf
      omega
    · rw [put_get_ne (hdst u q t hq he ht)] at hx'
      exact Rep.msub hsub _ (h.slot u q hq (hl.resolve_left he) hfl t x ht hx')
  · intro t x y hx' hy hno
    have hrt : r.o.dst ≠ some t := hno v r hr ((hls _).2 (.inl rfl))
    rw [put_get_ne hrt] at hx'
    exact Rep.msub hsub _ (h.old t x y hx' hy fun u q hq hl => hno u q hq ((hls _).2 (.inr hl)))
  · intro b o hb
    have h1 := h.xsub b o hb
    have := ext_lt h.inv h1
    simp only [G.withX]
    rw [if_neg (by omega)]
    exact h1
  · intro u q hq hl hf' hu
    rw [hls] at hl
    by_cases he : q.i = r.i
    · obtain ⟨rfl, rfl⟩ := hF.uniq hq hr he
      refine ⟨z.cells, e, by simp [G.withX], ?_, hx, hm, fun t x ht hx' => ?_⟩
      · rw [if_pos rfl]
        cases hX : g0.X w.heap.size with
        | none => rfl
        | some o => exact absurd (ext_lt h.inv (h.xsub _ _ hX)) (Nat.lt_irrefl _)
      · rw [ht] at hx'
        rw [put_get_self hx', if_pos rfl]
    · obtain ⟨cs, e', k1, k2, k3, k4, k5⟩ := h.pend u q hq (hl.resolve_left he) hf' hu
      have := ext_lt h.inv k1
      rw [if_neg (huv u q hq he)]
      refine ⟨cs, e', ?_, k2, k3, k4, fun t x ht hx' => ?_⟩
      · simp only [G.withX]
        rw [if_neg (by omega)]
        exact k1
      · rw [put_get_ne (hdst u q t hq he ht)] at hx'
        exact k5 t x ht hx'
  · intro u u' q q' hq hq' hl hl' hf1 hf2 hu hu' hne
    rw [hls] at hl hl'
    by_cases he : q.i = r.i
    · obtain ⟨rfl, rfl⟩ := hF.uniq hq hr he
      by_cases he' : q'.i = q.i
      · exact absurd (hF.uniq hq' hr he').1.symm hne
      · obtain ⟨cs, e', k1, _⟩ := h.pend u' q' hq' (hl'.resolve_left he') hf2 hu'
        have := ext_lt h.inv k1
        rw [if_pos rfl, if_neg (huv u' q' hq' he')]
        omega
    · obtain ⟨cs, e', k1, _⟩ := h.pend u q hq (hl.resolve_left he) hf1 hu
      have := ext_lt h.inv k1
      rw [if_neg (huv u q hq he)]
      by_cases he' : q'.i = r.i
      · obtain ⟨rfl, rfl⟩ := hF.uniq hq' hr he'
        rw [if_pos rfl]
        omega
      · rw [if_neg (huv u' q' hq' he')]
        exact h.distinct u u' q q' hq hq' (hl.resolve_left he) (hl'.resolve_left he') hf1 hf2 hu hu' hne
end
end Go.Vm
