/- The abstract machine: regions that draw their order, joined; calls. -/
import Derived.Test.YtmppnmffbmpcpaaDoorVmExE
set_option linter.unusedVariables false
set_option linter.unusedSimpArgs false
namespace Go.Vm
open Go.RowKit
section
variable {E : Env} {w0 : World} {call : ACall} {fn : FuncId} {ops : Array Oper} {bs : Array Nat} {a0 : AF} {m0 : AM} {recs : List DRec} {pn : Option (DRec × Nat)} {af : AF} {mf : AM}

theorem facts_of (hs : drawStatic ops bs = true) {a : AF} {m : AM} (ht : atrace E call fn ops bs ((List.range ops.size).zip ops.toList) a m none [] = some (recs, pn, af, mf)) (hk : drawOk E call fn ops bs recs pn = true) :
    Facts E call fn ops bs a m recs pn af mf := by
  unfold drawOk at hk
  simp only [Bool.and_eq_true] at hk
  obtain ⟨⟨h1, h2⟩, h3⟩ := hk
  refine ⟨atrace_facts _ (fun p hp => ?_) ht ⟨fun u r hr => (by simp at hr), fun p k hp => (by cases hp), by simp [frAt], by simp [memAt]⟩, fun i o ho => static_facts hs ho, fun u v r q huv hr hq => allPairs_get h1 u v r q huv hr hq, fun p k hp => ?_, fun i hi => ?_⟩
  · obtain ⟨j, hj, hjp⟩ := List.mem_iff_getElem.1 hp
    subst hjp
    simp only [List.length_zip, List.length_range, Array.length_toList, Nat.min_self] at hj
    simp [List.getElem_zip, Array.getElem?_eq_getElem hj]
  · subst hp
    simp only [Bool.and_eq_true] at h2
    obtain ⟨⟨⟨k1, k2⟩, k3⟩, k4⟩ := h2
    refine ⟨k1, fun u r hr hu hl => ?_, fun u r hr hu => ?_, fun u r hr => ?_⟩
    · have hm : r ∈ recs.take k := List.mem_of_getElem? (i := u) (by rw [List.getElem?_take, if_pos hu]; exact hr)
      have := List.all_eq_true.1 k2 r hm
      rw [hl] at this
      simpa [Bit] using this
    · have hm : r ∈ recs.drop k := List.mem_of_getElem? (i := u - k) (by rw [List.getElem?_drop, show k + (u - k) = u by omega]; exact hr)
      have := List.all_eq_true.1 k3 r hm
      simp only [Bool.and_eq_true, Bool.not_eq_true'] at this
      exact ⟨this.1, fun hb => by unfold Bit at hb; rw [this.2] at hb; cases hb⟩
    · have := List.all_eq_true.1 k4 r (List.mem_of_getElem? hr)
      simp only [Bool.and_eq_true, bne_iff_ne, Bool.not_eq_true'] at this
      exact ⟨this.1, fun hb => by unfold Bit at hb; rw [this.2] at hb; cases hb⟩
  · have := List.all_eq_true.1 h3 i (List.mem_range.2 hi)
    simp only [Bool.or_eq_true] at this
    rcases this with (h | h) | h
    · obtain ⟨r, hr, he⟩ := List.any_eq_true.1 h
      obtain ⟨u, hu, rfl⟩ := List.mem_iff_getElem.1 hr
      exact .inl ⟨u, _, List.getElem?_eq_getElem hu, by simpa using he⟩
    · exact .inr (.inl h)
    · refine .inr (.inr ?_)
      cases pn with
      | none => simp at h
      | some p => exact ⟨p.1, p.2, rfl, by simpa using h⟩

theorem ready_spec {listed : Array Bool} {i : Nat} (hsz : listed.size = ops.size) : i ∈ Region.ready .any ops listed ↔ ∃ o, ops[i]? = some o ∧ ¬ Listed listed i ∧ ∀ e ∈ o.after, Region.binds .any e = true → Listed listed e.on := by
  unfold Region.ready Listed
  simp only [List.mem_filter, List.mem_range, Bool.and_eq_true, Bool.not_eq_true']
  constructor
  · rintro ⟨hi, h1, h2⟩
    have ho : ops[i]? = some ops[i] := Array.getElem?_eq_getElem hi
    generalize ops[i] = o at ho
    rw [ho] at h2
    simp only [Option.map_some, Option.getD_some, Array.all_eq_true'] at h2
    refine ⟨o, ho, ?_, fun e he hb => ?_⟩
    · have hil : i < listed.size := by omega
      rw [Array.getD_eq_getD_getElem?, Array.getElem?_eq_getElem hil] at h1 ⊢
      simp only [Option.getD_some] at h1 ⊢
      rw [h1]
      simp
    · have := h2 e he
      simpa [hb] using this
  · rintro ⟨o, ho, h1, h2⟩
    have hi := (Array.getElem?_eq_some_iff.1 ho).1
    have hil : i < listed.size := by omega
    refine ⟨hi, ?_, ?_⟩
    · rw [Array.getD_eq_getD_getElem?, Array.getElem?_eq_getElem hil] at h1 ⊢
      simpa using h1
    · rw [ho]
      simp only [Option.map_some, Option.getD_some, Array.all_eq_true']
      intro e he
      cases hb : Region.binds .any e with
      | false => rfl
      | true => simpa using h2 e he hb

/-- Nothing is ready: all is done. -/
theorem all_listed (hF : Facts E call fn ops bs a0 m0 recs pn af mf) {listed : Array Bool} (hsz : listed.size = ops.size) (h : Region.ready .any ops listed = []) : ∀ i, i < ops.size → Listed listed i := by
  intro i
  induction i using Nat.strongRecOn with
  | _ i ih =>
    intro hi
    have ho : ops[i]? = some ops[i] := Array.getElem?_eq_getElem hi
    generalize ops[i] = o at ho
    refine Classical.byContradiction fun hl => ?_
    have : i ∈ Region.ready .any ops listed := (ready_spec hsz).2 ⟨o, ho, hl, fun e he hb => ih e.on ((hF.st i o ho).back e he hb) (Nat.lt_trans ((hF.st i o ho).back e he hb) hi)⟩
    rw [h] at this
    cases this

theorem anc_listed (hF : Facts E call fn ops bs a0 m0 recs pn af mf) {g0 g : G} {listed : Array Bool} {act : Act} {w : World} {c : Nat} {pb : Nat → Nat} (h : DInv E w0 fn ops bs a0 m0 recs pn g0 g listed act w c pb)
    {i : Nat} {o : Oper} (ho : ops[i]? = some o) (hr : ∀ e ∈ o.after, Region.binds .any e = true → Listed listed e.on) : ∀ j, Bit bs i j → Listed listed j := by
  intro j hj
  obtain ⟨e, he, hb, h1⟩ := ((hF.st i o ho).bits j).1 hj
  rcases h1 with rfl | h1
  · exact hr e he hb
  · exact h.down _ _ (hr e he hb) h1

/-- The silent steps come to the same at every stage. -/
theorem silent_any (hF : Facts E call fn ops bs a0 m0 recs pn af mf) {g0 g : G} {listed : Array Bool} {act : Act} {w : World} {c : Nat} {pb : Nat → Nat} (h : DInv E w0 fn ops bs a0 m0 recs pn g0 g listed act w c pb)
    (hc : c = recs.length ∨ ∃ r, recs[c]? = some r ∧ loud E fn r.o = true ∧ ¬ Listed listed r.i) {v : Nat} {r : DRec} (hr : recs[v]? = some r) (hni : ¬ Listed listed r.i) (hanc : ∀ j, Bit bs r.i j → Listed listed j) (hs : loud E fn r.o = false) :
    aone E call fn ops r.o r.a (memAt E fn recs m0 c) = some (.ret r.x (memAt E fn recs m0 c)) := by
  obtain ⟨ho, hra, hrm, hone⟩ := hF.tr.all v r hr
  have hvl : v < recs.length := (List.getElem?_eq_some_iff.1 hr).1
  have hkeep : r.m' = r.m := aone_keep hs hone
  rw [hkeep] at hone
  have hfin : ∀ m, m = r.m → aone E call fn ops r.o r.a m = some (.ret r.x m) := fun m e => by rw [e]; exact hone
  have hret : ∀ m, isRet (aone E call fn ops r.o r.a m) r.x = true → aone E call fn ops r.o r.a m = some (.ret r.x m) := fun m hi => by
    obtain ⟨m', hm'⟩ := isRet_eq hi
    rw [hm', aone_keep hs hm']
  rcases Nat.lt_or_ge v c with hlt | hge
  · rcases last_loud (E := E) (fn := fn) (recs := recs) (u := v) c (by omega) h.cl with h1 | ⟨k, q, h1, h2, h3, h4, h5⟩
    · exact hfin _ ((memAt_same c (by omega) h.cl h1).trans hrm.symm)
    · have hkv : v ≠ k := fun e => by
        subst e
        rw [hr] at h3
        rw [← Option.some.inj h3, hs] at h4
        cases h4
      have hp := hF.pair v k r q (by omega) hr h3
      unfold pairOk at hp
      simp only [hs, h4, Bool.false_eq_true, if_false, if_true, Bool.and_eq_true, Bool.or_eq_true] at hp
      rcases hp.2 with hb | hi
      · exact absurd (h.down _ _ (h.ahead k q h3 h2 h4) hb) hni
      · have hm : memAt E fn recs m0 c = q.m' := by
          rw [memAt_same (u := k + 1) c (by omega) h.cl (fun j q' hj1 hj2 hq' => h5 j q' (by omega) hj2 hq'), memAt_succ h3, if_pos h4]
        rw [hm]
        exact hret _ hi
  · rcases hc with rfl | ⟨l, hl, hll, hln⟩
    · omega
    · have hcv : c ≠ v := fun e => by
        subst e
        rw [hr] at hl
        rw [← Option.some.inj hl, hs] at hll
        cases hll
      have hp := hF.pair c v l r (by omega) hl hr
      unfold pairOk at hp
      simp only [hs, hll, Bool.false_eq_true, if_false, if_true, Bool.and_eq_true, Bool.or_eq_true] at hp
      rcases hp.2 with hb | hi
      · exact absurd (hanc _ hb) hln
      · rw [← (hF.tr.all c l hl).2.2.1]
        exact hret _ hi

/-- What hangs on a variable that waits waits too. -/
theorem float_ahead (hF : Facts E call fn ops bs a0 m0 recs pn af mf) {g0 g : G} {listed : Array Bool} {act : Act} {w : World} {c : Nat} {pb : Nat → Nat} (h : DInv E w0 fn ops bs a0 m0 recs pn g0 g listed act w c pb)
    (hc : c = recs.length ∨ ∃ r, recs[c]? = some r ∧ loud E fn r.o = true ∧ ¬ Listed listed r.i) {v : Nat} {r : DRec} (hr : recs[v]? = some r) (hanc : ∀ j, Bit bs r.i j → Listed listed j) :
    ∀ (u : Nat) (q : DRec) (t : Nat), recs[u]? = some q → Listed listed q.i → floats q.o = true → q.o.dst = some t → t ∈ r.o.looksAt ops → u < c := by
  intro u q t hq hl hf ht hm
  rcases Nat.lt_or_ge u c with hlt | hge
  · exact hlt
  · rcases hc with rfl | ⟨l, hl', hll, hln⟩
    · have := (List.getElem?_eq_some_iff.1 hq).1
      omega
    · have hcu : c ≠ u := fun e => by
        subst e
        rw [hq] at hl'
        exact hln (Option.some.inj hl' ▸ hl)
      have hp := hF.pair c u l q (by omega) hl' hq
      unfold pairOk at hp
      simp only [hll, (floats_loud (E := E) (fn := fn) hf).1, hf, if_true, Bool.and_eq_true] at hp
      have := List.all_eq_true.1 hp.2 r (List.mem_of_getElem? hr)
      rw [ht] at this
      simp only [Bool.or_eq_true, Bool.not_eq_true'] at this
      rcases this with h1 | h1
      · exact absurd (by simpa using hm) (by simpa using h1)
      · exact absurd (hanc _ h1) hln

/-- The result that the region comes to. -/
def drawRes (a0 : AF) (pn : Option (DRec × Nat)) (af : AF) (mf : AM) : Option (AX × AF × AM) :=
  match pn with
  | none => some (.normal, af, mf)
  | some (⟨_, _, _, _, .v x, mp⟩, _) => some (.pan x, a0, mp)
  | _ => none

theorem DInv.step (he : EnvOk E) (hcall : CallOk E call) (hbod : Bodied E call) (hF : Facts E call fn ops bs a0 m0 recs pn af mf) {res : AX × AF × AM} (hres : drawRes a0 pn af mf = some res)
    {g0 g : G} {listed : Array Bool} {act : Act} {w : World} {c : Nat} {pb : Nat → Nat} (h : DInv E w0 fn ops bs a0 m0 recs pn g0 g listed act w c pb) {i : Nat} (hready : i ∈ Region.ready .any ops listed) :
    wpOp E.P ops (XPost E w0 g0 res) i (fun act' w' => ∃ g' c' pb', DInv E w0 fn ops bs a0 m0 recs pn g0 g' (listed.setIfInBounds i true) act' w' c' pb') act w := by
  obtain ⟨o, ho, hni, hedge⟩ := (ready_spec h.size).1 hready
  have hanc := anc_listed hF h ho hedge
  obtain ⟨g1, c1, h1, hc1⟩ := DInv.norm hF _ g c rfl h
  have hil := (Array.getElem?_eq_some_iff.1 ho).1
  rcases hF.cover i hil with ⟨v, r, hr, rfl⟩ | hsk | ⟨p, k, hp, rfl⟩
  · obtain ⟨ho', hra, hrm, hone⟩ := hF.tr.all v r hr
    rw [ho] at ho'
    obtain rfl := Option.some.inj ho'
    have hvl : v < recs.length := (List.getElem?_eq_some_iff.1 hr).1
    cases hf : floats r.o with
    | true =>
      obtain ⟨e, z, hop, hg, hz, hx, hm⟩ := float_one hf hone
      unfold wpOp
      rw [ho]
      simp only
      rw [if_pos (by simp [Region.wanted, hg])]
      left
      have hrun : (execOp act.eval r.o).run E.P w = .ok (.value (.pointer (some ⟨w.heap.size, 0, none⟩))) (w.alloc (.cells z.cells e)) := by
        simp [execOp, hop, Instr.alloc, run_tzero hz, run_newVar]
      unfold Oper.wp
      rw [hrun]
      exact ⟨_, _, _, h1.float hF hr hni hanc hf hx hm⟩
    | false =>
      have hlook : ∀ t ∈ r.o.looksAt ops, SlotRel g1 r.a act t := by
        rw [hra]
        refine h1.looks hF ho hni hanc (Nat.le_of_lt hvl) (fun u q hq hu he => ?_) (fun u q hq hu hb => ?_) (fun u q hq hu hb => ?_) (float_ahead hF h1 hc1 hr hanc)
        · have := (hF.uniq hq hr he).1; omega
        · have hp := hF.pair u v q r hu hq hr
          unfold pairOk at hp
          simp only [Bool.and_eq_true, Bool.not_eq_true'] at hp
          unfold Bit at hb
          rw [hp.1.2] at hb; cases hb
        · rcases Nat.eq_or_lt_of_le hu with rfl | hlt
          · rw [hr] at hq
            obtain rfl := Option.some.inj hq
            exact hni (hanc _ hb)
          · have hp := hF.pair v u r q hlt hr hq
            unfold pairOk at hp
            simp only [Bool.and_eq_true, Bool.not_eq_true'] at hp
            unfold Bit at hb
            rw [hp.1.2] at hb; cases hb
      cases hs : loud E fn r.o with
      | false =>
        have hone' := silent_any hF h1 hc1 hr hni hanc hs
        refine one_wp he hcall hbod h1.inv ho hlook hone' ?_ ?_
        · intro x m' val w' g' hx hle hi hrep
          obtain ⟨rfl, rfl⟩ := ARes.ret.inj hx
          exact ⟨g', c1, pb, h1.put hF hr hni hanc hle hi hrep (.inl ⟨hs, rfl⟩) hf⟩
        · intro x m' w' g' hx
          cases hx
      | true =>
        have hcv : c1 = v := by
          rcases Nat.lt_trichotomy c1 v with hlt | rfl | hgt
          · rcases hc1 with rfl | ⟨l, hl, hll, hln⟩
            · omega
            · have hp := hF.pair c1 v l r hlt hl hr
              unfold pairOk at hp
              simp only [hll, hs, hf, if_true, Bool.and_eq_true, Bool.false_eq_true, if_false] at hp
              exact absurd (hanc _ hp.2) hln
          · rfl
          · exact absurd (h1.ahead v r hr hgt hs) hni
        subst hcv
        rw [hrm] at hone
        refine one_wp he hcall hbod h1.inv ho hlook hone ?_ ?_
        · intro x m' val w' g' hx hle hi hrep
          obtain ⟨rfl, rfl⟩ := ARes.ret.inj hx
          refine ⟨g', c1 + 1, pb, h1.put hF hr hni hanc hle ?_ hrep (.inr ⟨hs, rfl, rfl⟩) hf⟩
          rw [memAt_succ hr, if_pos hs]
          exact hi
        · intro x m' w' g' hx
          cases hx
  · cases pn with
    | none => simp [skipped] at hsk
    | some p => exact absurd (hanc _ hsk) (h.nopan p.1 p.2 rfl)
  · obtain ⟨hk, ho', hpa, hpm, y, hpx, hone⟩ := hF.tr.pan p k hp
    obtain ⟨hpl, hfront, hback, hne⟩ := hF.pan p k hp
    rw [ho] at ho'
    obtain rfl := Option.some.inj ho'
    have hcl : c1 = recs.length := by
      rcases hc1 with rfl | ⟨l, hl, hll, hln⟩
      · rfl
      · rcases Nat.lt_or_ge c1 k with hlt | hge
        · exact absurd (hanc _ (hfront c1 l hl hlt hll)) hln
        · rw [(hback c1 l hl hge).1] at hll; cases hll
    have hmem : memAt E fn recs m0 c1 = p.m := by
      rw [hpm, hcl]
      exact memAt_same _ hk (Nat.le_refl _) fun j q hj1 hj2 hq => (hback j q hq hj1).1
    have hlook : ∀ t ∈ p.o.looksAt ops, SlotRel g1 p.a act t := by
      rw [hpa]
      refine h1.looks hF ho hni hanc hk (fun u q hq _ => (hne u q hq).1) (fun u q hq hu hb => (hne u q hq).2 hb) (fun u q hq hu hb => (hback u q hq hu).2 hb) (fun u q t hq _ _ _ _ => ?_)
      · rw [hcl]; exact (List.getElem?_eq_some_iff.1 hq).1
    rw [← hmem] at hone
    refine one_wp he hcall hbod h1.inv ho hlook hone ?_ ?_
    · intro x m' v w' g' hx
      cases hx
    · intro x m' w' g' hx hle hi
      obtain ⟨rfl, rfl⟩ := ARes.pan.inj hx
      subst hp
      obtain ⟨pi, po, pa, pm, px, pm'⟩ := p
      simp only at hpx
      subst hpx
      simp only [drawRes, Option.some.injEq] at hres
      subst hres
      have hX : ∀ b ob, g0.X b = some ob → g'.X b = some ob := fun b ob hb => by rw [hle.3]; exact h1.xsub b ob hb
      exact ⟨g'.withX g0.X, ⟨fun a v hv => hle.1 _ _ (h1.sub.1 _ _ hv), fun i t ht => hle.2 _ _ (h1.sub.2 _ _ ht), rfl, hle.4.trans h1.sub.3, hle.5.trans h1.sub.4⟩, hi.withX fun b ob hb => hi.ext b ob (hX b ob hb), rfl, h1.defers⟩

/-- The end of a region. -/
theorem DInv.fin (hF : Facts E call fn ops bs a0 m0 recs pn af mf) {res : AX × AF × AM} (hres : drawRes a0 pn af mf = some res)
    {g0 g : G} {listed : Array Bool} {act : Act} {w : World} {c : Nat} {pb : Nat → Nat} (h : DInv E w0 fn ops bs a0 m0 recs pn g0 g listed act w c pb) (hall : ∀ i, i < ops.size → Listed listed i) : XPost E w0 g0 res .normal act w := by
  have hpn : pn = none := by
    cases hp : pn with
    | none => rfl
    | some p => exact absurd (hall _ (Array.getElem?_eq_some_iff.1 (hF.tr.pan p.1 p.2 hp).2.1).1) (h.nopan p.1 p.2 hp)
  subst hpn
  simp only [drawRes, Option.some.injEq] at hres
  subst hres
  obtain ⟨g1, c1, h1, hc1⟩ := DInv.norm hF _ g c rfl h
  have hal : ∀ (u : Nat) (r : DRec), recs[u]? = some r → Listed listed r.i := fun u r hr => hall _ (Array.getElem?_eq_some_iff.1 (hF.tr.all u r hr).1).1
  have hcl : c1 = recs.length := by
    rcases hc1 with rfl | ⟨l, hl, hll, hln⟩
    · rfl
    · exact absurd (hal c1 l hl) hln
  subst hcl
  refine ⟨g1.withX g0.X, ⟨h1.sub.1, h1.sub.2, rfl, h1.sub.3, h1.sub.4⟩, ?_, rfl, ?_, h1.defers⟩
  · rw [hF.tr.mem]
    exact h1.inv.withX fun b ob hb => h1.inv.ext b ob (h1.xsub b ob hb)
  · rw [hF.tr.fr]
    refine .of_get ((hF.frLen (Nat.le_refl _)).trans (h1.len.symm.trans Array.length_toList.symm)) fun t x v hx hv => ?_
    rw [Array.getElem?_toList] at hv
    refine Rep.msub (G.sub_withX _) _ ?_
    have htl : t < a0.length := by
      have := (List.getElem?_eq_some_iff.1 hx).1
      rw [hF.frLen (Nat.le_refl _)] at this
      exact this
    rcases (slotAt (recs := recs) (a0 := a0) recs.length (Nat.le_refl _) t).2 with ⟨k1, k2⟩ | ⟨u, q, k1, k2, k3, k4⟩
    · rw [k2] at hx
      exact h1.old t v x hv hx fun u q hq _ => k1 u q (List.getElem?_eq_some_iff.1 hq).1 hq
    · rw [k4 htl] at hx
      obtain rfl := Option.some.inj hx
      exact h1.slot u q k2 (hal u q k2) (fun _ => k1) t v k3 hv

def unl (l : List Bool) : Nat := (l.filter fun b => !b).length
theorem unl_set : ∀ (l : List Bool) (i : Nat), l[i]? = some false → unl (l.set i true) + 1 = unl l
  | [], i, h => by simp at h
  | b :: l, 0, h => by
    simp only [List.getElem?_cons_zero, Option.some.injEq] at h
    subst h
    simp [unl]
  | b :: l, i + 1, h => by
    simp only [List.getElem?_cons_succ] at h
    have ih := unl_set l i h
    simp only [unl, List.set_cons_succ, List.filter_cons] at ih ⊢
    cases b <;> simp <;> omega
theorem unl_zero {l : List Bool} (h : unl l = 0) : ∀ i, i < l.length → l[i]? = some true := by
  intro i hi
  rw [List.getElem?_eq_getElem hi]
  have hm : l[i] ∈ l := List.getElem_mem hi
  cases hb : l[i] with
  | true => rfl
  | false =>
    have : l[i] ∈ l.filter fun b => !b := List.mem_filter.2 ⟨hm, by rw [hb]; rfl⟩
    unfold unl at h
    rw [List.length_eq_zero_iff.1 h] at this
    cases this

theorem draw_any (he : EnvOk E) (hcall : CallOk E call) (hbod : Bodied E call) (hF : Facts E call fn ops bs a0 m0 recs pn af mf) {res : AX × AF × AM} (hres : drawRes a0 pn af mf = some res) {g0 : G} :
    ∀ (fuel : Nat) (listed : Array Bool) (act : Act) (w : World), unl listed.toList ≤ fuel → (∃ g c pb, DInv E w0 fn ops bs a0 m0 recs pn g0 g listed act w c pb) → wpAny E.P .any ops (XPost E w0 g0 res) fuel listed act w
  | 0, listed, act, w, hu, ⟨g, c, pb, h⟩ => by
    have hall : ∀ i, i < ops.size → Listed listed i := fun i hi => by
      have := unl_zero (Nat.le_zero.1 hu) i (by rw [Array.length_toList, h.size]; exact hi)
      rw [Array.getElem?_toList] at this
      unfold Listed
      rw [Array.getD_eq_getD_getElem?, this]
      rfl
    refine ⟨?_, h.fin hF hres hall⟩
    cases hr : Region.ready .any ops listed with
    | nil => rfl
    | cons i l =>
      have hm : i ∈ Region.ready .any ops listed := by rw [hr]; simp
      obtain ⟨o, ho, hn, _⟩ := (ready_spec h.size).1 hm
      exact absurd (hall i (Array.getElem?_eq_some_iff.1 ho).1) hn
  | fuel + 1, listed, act, w, hu, ⟨g, c, pb, h⟩ => by
    refine ⟨fun hr => h.fin hF hres (all_listed hF h.size hr), fun i hi => ?_⟩
    refine wpOp_mono (fun act' w' hd => ?_) (h.step he hcall hbod hF hres hi)
    refine draw_any he hcall hbod hF hres fuel _ act' w' ?_ hd
    obtain ⟨o, ho, hn, _⟩ := (ready_spec h.size).1 hi
    have hil : i < listed.size := by rw [h.size]; exact (Array.getElem?_eq_some_iff.1 ho).1
    have hf : listed.toList[i]? = some false := by
      rw [Array.getElem?_toList, Array.getElem?_eq_getElem hil]
      unfold Listed at hn
      rw [Array.getD_eq_getD_getElem?, Array.getElem?_eq_getElem hil] at hn
      simpa using hn
    have := unl_set _ _ hf
    rw [Array.toList_setIfInBounds]
    omega

theorem draw_good (he : EnvOk E) (hcall : CallOk E call) (hbod : Bodied E call) : DrawOk E call := by
  intro fn ops a m r h w0 g act w id hi hf
  unfold aregion at h
  rw [if_pos rfl] at h
  simp only at h
  split at h
  case isFalse => cases h
  rename_i hs
  split at h
  case h_2 => cases h
  rename_i recs pn a' m' ht
  split at h
  case isFalse => cases h
  rename_i hk
  have hF := facts_of hs ht hk
  have hres : drawRes a pn a' m' = some r := h
  refine wp_region_any he.mixed (draw_any he hcall hbod hF hres _ _ act _ ?_ ⟨g, 0, fun _ => 0, ?_⟩)
  · have : ∀ n, unl (List.replicate n false) = n := fun n => by simp [unl]
    rw [Array.toList_replicate, this]
    exact Nat.le_refl _
  · have hno : ∀ j, ¬ Listed (Array.replicate ops.size false) j := fun j => by
      unfold Listed
      rw [Array.getD_eq_getD_getElem?, Array.getElem?_replicate]
      split <;> simp
    have hlen := hf.1.length
    simp only [Array.length_toList] at hlen
    refine ⟨.refl g, by simpa [memAt] using hi.drew, by simp, fun i j hl => absurd hl (hno i), fun p k _ => hno _, hlen.symm, hf.2, Nat.zero_le _, fun u r _ hu => absurd hu (Nat.not_lt_zero _), fun u r _ _ _ _ => hno _,
      fun u r _ hl => absurd hl (hno _), fun t v x hv hx _ => ?_, fun b o hb => hb, fun u r _ hl => absurd hl (hno _), fun u u' r r' _ _ hl => absurd hl (hno _)⟩
    obtain ⟨v', hv', hr⟩ := hf.1.get hx
    rw [Array.getElem?_toList, hv] at hv'
    exact Option.some.inj hv' ▸ hr

/-- Every call that the machine follows comes, on every tape, to what the machine says. -/
theorem calls_good (he : EnvOk E) (n : Nat) : CallOk E (acall E n) := acall_good he (fun call hc hb => draw_good he hc hb) n
end
end Go.Vm
