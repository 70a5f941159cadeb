/- The abstract machine: what an abstract memory says of a world, and what each kind of step leaves of it. -/
import Derived.Test.YtmppnmffbmpcpaaDoorVmRep
import Derived.Laws.IdiomCopy
import Derived.OwnWalk
namespace Go.Vm
open Go.RowKit

/-- No cell of the block is frozen. -/
def Unfr (fr : Nat × Nat) (n : Nat) : Prop := fr.1 = fr.2 ∨ n ≤ fr.1

def MapRep (g : G) : List (Value × AV × Nat) → List MapEntry → Prop
  | [], l => l = []
  | a :: r, l => ∃ e s, l = e :: s ∧ e.key = a.1 ∧ Rep g a.2.1 e.val ∧ e.born = a.2.2 ∧ MapRep g r s

def BlkOk (g : G) (w : World) : AB → TI → Prop
  | .dead, _ => True
  | .tok, ti => ∃ cs e fr, w.heap[ti.block]? = some (.cells cs e fr) ∧ cs.size = ti.size ∧ Unfr fr cs.size ∧ ∀ off, ti.wm ≤ off → g.K ⟨ti.block, off, none⟩ = none
  | .wr cells e part, ti => ∃ cs fr, w.heap[ti.block]? = some (.cells cs e fr) ∧ cs.size = ti.size ∧ Unfr fr cs.size ∧ RepL g cells (cs.toList.take cells.length) ∧
      (part = false → cells.length = cs.size) ∧ ∀ off, g.K ⟨ti.block, off, none⟩ = none
  | .frz cells e, ti => ∃ cs fr, w.heap[ti.block]? = some (.cells cs e fr) ∧ cs.size = ti.size ∧ Unfr fr cs.size ∧ RepL g cells cs.toList ∧
      ∀ off v, cs[off]? = some v → g.K ⟨ti.block, off, none⟩ = some v
  | .map es clock, ti => ∃ ents, w.heap[ti.block]? = some (.map ents clock) ∧ MapRep g es ents.toList

/-- The errors of the package-level variables. -/
structure Sent (E : Env) (w0 : World) (g : G) : Prop where
  cell : ∀ i, E.sent i = true → g.K ⟨i, 0, none⟩ = some (g.U i)
  ptr : ∀ i, E.sent i = true → ∃ a c ty, g.U i = .iface E.errT (.pointer (some a)) ∧ a.block < w0.heap.size ∧ w0.heap[a.block]? = some (.cells c ty (0, 0))
  apart : ∀ i j, E.sent i = true → E.sent j = true → g.U i = g.U j → i = j

theorem Sent.mono {E : Env} {w0 : World} {g g' : G} (h : g.sub g') (hs : Sent E w0 g) : Sent E w0 g' :=
  ⟨fun i hi => by rw [h.3]; exact h.1 _ _ (hs.cell i hi), fun i hi => by rw [h.3]; exact hs.ptr i hi, fun i j hi hj he => hs.apart i j hi hj (by rw [h.3] at he; exact he)⟩

/-- The listed facts hold. -/
def xval (V : Nat → Value) : AV → Option Value
  | .v x => some x
  | .x i => some (V i)
  | _ => none
def FactOk (P : Program) (V : Nat → Value) (f : Fact) : Prop :=
  ∃ vx vy vr, xval V f.a = some vx ∧ xval V f.b = some vy ∧ (f.r = .v vr ∨ ∃ i, f.r = .x i ∧ V i = vr ∧ Scal vr) ∧
    ∀ (a b : Operand) (w : World), (do eqGuard f.op f.t a b vx vy; binOp f.op f.t vx vy : Sem Value).run P w = .ok vr w

structure Inv (E : Env) (w0 : World) (g : G) (m : AM) (w : World) : Prop where
  below : Below w0.heap.size w0 w
  kcell : ∀ a v, g.K a = some v → w.cell? a = some v
  glob : ∀ i cs, E.glob i = some cs → ∀ off v, cs[off]? = some v → g.K ⟨i, off, none⟩ = some v
  dom : ∀ i ti, g.T i = some ti → i < m.length ∧ w0.heap.size ≤ ti.block ∧ ti.block < w.heap.size
  live : ∀ i b, m[i]? = some b → b.alive = true → ∃ ti, g.T i = some ti ∧ BlkOk g w b ti
  apart : ∀ i j bi bj ti tj, i ≠ j → m[i]? = some bi → m[j]? = some bj → bi.alive = true → bj.alive = true → g.T i = some ti → g.T j = some tj → ti.block ≠ tj.block
  ext : ∀ b o, g.X b = some o → w.heap[b]? = some o ∧ w0.heap.size ≤ b ∧ (∀ off, g.K ⟨b, off, none⟩ = none) ∧ ∀ i ti, g.T i = some ti → ti.block ≠ b
  sent : Sent E w0 g
  fact : ∀ f ∈ E.facts, FactOk E.P g.V f

theorem MapRep.mono {g g' : G} (h : g.le g') : ∀ {es : List (Value × AV × Nat)} {l : List MapEntry}, MapRep g es l → MapRep g' es l
  | [], _, hr => hr
  | _ :: _, _, ⟨e, s, h0, h1, h2, h3, h4⟩ => ⟨e, s, h0, h1, Rep.mono h _ h2, h3, MapRep.mono h h4⟩

/-- A block that is as it was stays what it was, where nothing new is known of its cells. -/
theorem BlkOk.keep {g g' : G} {w w' : World} {b : AB} {ti : TI} (hg : g.le g') (hw : w'.heap[ti.block]? = w.heap[ti.block]?)
    (hK : ∀ off v, g'.K ⟨ti.block, off, none⟩ = some v → g.K ⟨ti.block, off, none⟩ = some v) (h : BlkOk g w b ti) : BlkOk g' w' b ti := by
  have hn : ∀ off, g.K ⟨ti.block, off, none⟩ = none → g'.K ⟨ti.block, off, none⟩ = none := fun off h0 => by
    cases hk : g'.K ⟨ti.block, off, none⟩ with
    | none => rfl
    | some v => rw [hK off v hk] at h0; cases h0
  cases b with
  | dead => trivial
  | tok =>
    obtain ⟨cs, e, fr, h1, h2, h3, h4⟩ := h
    exact ⟨cs, e, fr, hw.trans h1, h2, h3, fun off ho => hn off (h4 off ho)⟩
  | wr cells e part =>
    obtain ⟨cs, fr, h1, h2, h3, h4, h5, h6⟩ := h
    exact ⟨cs, fr, hw.trans h1, h2, h3, RepL.mono hg _ h4, h5, fun off => hn off (h6 off)⟩
  | frz cells e =>
    obtain ⟨cs, fr, h1, h2, h3, h4, h5⟩ := h
    exact ⟨cs, fr, hw.trans h1, h2, h3, RepL.mono hg _ h4, fun off v ho => hg.1 _ _ (h5 off v ho)⟩
  | map es clock =>
    obtain ⟨ents, h1, h2⟩ := h
    exact ⟨ents, hw.trans h1, h2.mono hg⟩

def G.commit (g : G) (b lo : Nat) (l : List Value) : G :=
  { g with K := fun a => if a.block = b ∧ a.spot = none ∧ lo ≤ a.off ∧ a.off < lo + l.length then l[a.off - lo]? else g.K a }
def G.bind (g : G) (i : Nat) (ti : TI) : G := { g with T := fun j => if j = i then some ti else g.T j }

section
variable {E : Env} {w0 : World} {g : G} {m : AM} {w : World}

theorem G.le_commit {b lo : Nat} {l : List Value} (h : ∀ off, lo ≤ off → off < lo + l.length → g.K ⟨b, off, none⟩ = none) : g.le (g.commit b lo l) := by
  refine ⟨fun a v ha => ?_, fun _ _ h => h, rfl, rfl, rfl⟩
  simp only [G.commit]
  split
  · rename_i hc
    obtain ⟨h1, h2, h3, h4⟩ := hc
    have := h a.off h3 h4
    obtain ⟨ab, ao, as⟩ := a
    simp only at h1 h2
    subst h1; subst h2
    rw [this] at ha
    cases ha
  · exact ha
theorem G.le_bind {i : Nat} {ti : TI} (h : g.T i = none) : g.le (g.bind i ti) := by
  refine ⟨fun _ _ h => h, fun j t hj => ?_, rfl, rfl, rfl⟩
  simp only [G.bind]
  split
  · rename_i e
    subst e
    rw [h] at hj
    cases hj
  · exact hj

theorem Inv.fresh (h : Inv E w0 g m w) : g.T m.length = none := by
  cases ht : g.T m.length with
  | none => rfl
  | some ti => exact absurd (h.dom _ _ ht).1 (by omega)
theorem Inv.size (h : Inv E w0 g m w) : w0.heap.size ≤ w.heap.size := h.below.size
theorem Inv.klt (h : Inv E w0 g m w) {a : Addr} {v : Value} (hk : g.K a = some v) : a.block < w.heap.size := World.block_lt_of_cell? w a (h.kcell a v hk)

theorem Inv.drew (h : Inv E w0 g m w) : Inv E w0 g m w.drew :=
  ⟨h.below.drew, h.kcell, h.glob, h.dom, fun i b hb ha => let ⟨ti, ht, hk⟩ := h.live i b hb ha; ⟨ti, ht, hk.keep (.refl g) rfl fun _ _ h => h⟩, h.apart, h.ext, h.sent, h.fact⟩

theorem Inv.alloc (h : Inv E w0 g m w) (o : Obj) : Inv E w0 g m (w.alloc o) := by
  refine ⟨h.below.alloc h.size o, fun a v hk => ?_, h.glob, fun i ti ht => ?_, fun i b hb ha => ?_, h.apart, fun b o' hx => ?_, h.sent, h.fact⟩
  · rw [World.cell?_alloc_lt w o a (h.klt hk)]; exact h.kcell a v hk
  · obtain ⟨h1, h2, h3⟩ := h.dom i ti ht
    exact ⟨h1, h2, by simp; omega⟩
  · obtain ⟨ti, ht, hk⟩ := h.live i b hb ha
    exact ⟨ti, ht, hk.keep (.refl g) (Below.heap_alloc w o _ (h.dom i ti ht).2.2) fun _ _ h => h⟩
  · obtain ⟨h1, h2⟩ := h.ext b o' hx
    exact ⟨(Below.heap_alloc w o _ (Array.getElem?_eq_some_iff.1 h1).1).trans h1, h2⟩

/-- A block that nobody looks at any more. -/
theorem Inv.kill (h : Inv E w0 g m w) (i : Nat) : Inv E w0 g (m.set i .dead) w := by
  have hget : ∀ j b, (m.set i .dead)[j]? = some b → b.alive = true → m[j]? = some b ∧ j ≠ i := by
    intro j b hj ha
    rw [List.getElem?_set] at hj
    split at hj
    · split at hj
      · obtain rfl := Option.some.inj hj; simp [AB.alive] at ha
      · cases hj
    · exact ⟨hj, fun e => by simp_all⟩
  refine ⟨h.below, h.kcell, h.glob, fun j ti ht => by simpa using h.dom j ti ht, fun j b hj ha => h.live j b (hget j b hj ha).1 ha, ?_, h.ext, h.sent, h.fact⟩
  intro j k bj bk tj tk hne hj hk ha hb
  exact h.apart j k bj bk tj tk hne (hget j bj hj ha).1 (hget k bk hk hb).1 ha hb

/-- Is the block the block of a living number, or one that waits? -/
def Owned (g : G) (m : AM) (b : Nat) : Prop := (∃ i bi ti, m[i]? = some bi ∧ bi.alive = true ∧ g.T i = some ti ∧ ti.block = b) ∨ (g.X b).isSome = true

theorem Inv.killed (h : Inv E w0 g m w) {i : Nat} {b : AB} {ti : TI} (hi : m[i]? = some b) (ha : b.alive = true) (ht : g.T i = some ti) : ¬ Owned g (m.set i .dead) ti.block := by
  rintro (⟨j, bj, tj, hj, hb, htj, he⟩ | hx)
  case inr =>
    obtain ⟨o, ho⟩ := Option.isSome_iff_exists.1 hx
    exact (h.ext _ o ho).2.2.2 i ti ht rfl
  rw [List.getElem?_set] at hj
  split at hj
  · split at hj
    · obtain rfl := Option.some.inj hj; simp [AB.alive] at hb
    · cases hj
  · rename_i hne
    exact h.apart j i bj b tj ti (fun e => hne e.symm) hj hi hb ha htj ht he

/-- Cells are written in a block of the call's own that nobody owns, where nothing is known. -/
theorem Inv.write (h : Inv E w0 g m w) {b : Nat} (hb : w0.heap.size ≤ b) (hno : ¬ Owned g m b) (lo : Nat) (l : List Value) (hK : ∀ off, lo ≤ off → off < lo + l.length → g.K ⟨b, off, none⟩ = none) :
    Inv E w0 g m (w.setCells b lo l) := by
  have hheap : ∀ (l : List Value) (lo : Nat) (w : World) (k : Nat), k ≠ b → (w.setCells b lo l).heap[k]? = w.heap[k]? := by
    intro l
    induction l with
    | nil => intro _ _ _ _; rfl
    | cons v r ih => intro lo w k hk; exact (ih _ _ k hk).trans (Below.heap_setCell w ⟨b, lo, none⟩ v k hk)
  have hsz : ∀ (l : List Value) (lo : Nat) (w : World), (w.setCells b lo l).heap.size = w.heap.size := by
    intro l
    induction l with
    | nil => intro _ _; rfl
    | cons v r ih => intro lo w; exact (ih _ _).trans (by simp)
  have hbel : ∀ (l : List Value) (lo : Nat) (w : World), Below w0.heap.size w0 w → Below w0.heap.size w0 (w.setCells b lo l) := by
    intro l
    induction l with
    | nil => intro _ _ h; exact h
    | cons v r ih => intro lo w h; exact ih _ _ (h.setCell (p := ⟨b, lo, none⟩) hb v)
  refine ⟨hbel l lo w h.below, fun a v hk => ?_, h.glob, fun i ti ht => by rw [hsz]; exact h.dom i ti ht, fun i bi hi ha => ?_, h.apart, fun b' o hx =>
    let ⟨h1, h2⟩ := h.ext b' o hx; ⟨(hheap l lo w b' fun e => hno (.inr (by rw [← e, hx]; rfl))).trans h1, h2⟩, h.sent, h.fact⟩
  · rw [World.cell?_setCells_out]
    · exact h.kcell a v hk
    · intro h1 h2
      by_cases hlo : lo ≤ a.off ∧ a.off < lo + l.length
      · have := hK a.off hlo.1 hlo.2
        obtain ⟨ab, ao, as⟩ := a
        simp only at h1 h2
        subst h1; subst h2
        rw [this] at hk
        cases hk
      · omega
  · obtain ⟨ti, ht, hk⟩ := h.live i bi hi ha
    exact ⟨ti, ht, hk.keep (.refl g) (hheap l lo w _ fun e => hno (.inl ⟨i, bi, ti, hi, ha, ht, e⟩)) fun _ _ h => h⟩

/-- A block of the call's own that nobody owns gets a number; some of its cells are never written again. -/
theorem Inv.adopt (h : Inv E w0 g m w) {b : Nat} (hb : w0.heap.size ≤ b) (hlt : b < w.heap.size) (hno : ¬ Owned g m b) (wm size lo : Nat) (l : List Value)
    (hK : ∀ off, lo ≤ off → off < lo + l.length → g.K ⟨b, off, none⟩ = none) (hl : ∀ j v, l[j]? = some v → w.cell? ⟨b, lo + j, none⟩ = some v) (nb : AB)
    (hok : BlkOk ((g.bind m.length ⟨b, wm, size⟩).commit b lo l) w nb ⟨b, wm, size⟩) :
    g.le ((g.bind m.length ⟨b, wm, size⟩).commit b lo l) ∧ Inv E w0 ((g.bind m.length ⟨b, wm, size⟩).commit b lo l) (m ++ [nb]) w := by
  have hle : g.le ((g.bind m.length ⟨b, wm, size⟩).commit b lo l) := (G.le_bind h.fresh).trans (G.le_commit hK)
  have hT : ∀ i ti, ((g.bind m.length ⟨b, wm, size⟩).commit b lo l).T i = some ti → (i = m.length ∧ ti = ⟨b, wm, size⟩) ∨ (i < m.length ∧ g.T i = some ti) := by
    intro i ti ht
    simp only [G.commit, G.bind] at ht
    split at ht
    · rename_i e
      exact .inl ⟨e, (Option.some.inj ht).symm⟩
    · exact .inr ⟨(h.dom i ti ht).1, ht⟩
  have hold : ∀ i bi, (m ++ [nb])[i]? = some bi → (i = m.length ∧ bi = nb) ∨ (i < m.length ∧ m[i]? = some bi) := by
    intro i bi hi
    rcases Nat.lt_trichotomy i m.length with hlt | he | hgt
    · rw [List.getElem?_append_left hlt] at hi
      exact .inr ⟨hlt, hi⟩
    · subst he
      rw [List.getElem?_append_right (Nat.le_refl _)] at hi
      simp at hi
      exact .inl ⟨rfl, hi.symm⟩
    · rw [List.getElem?_append_right (by omega), List.getElem?_eq_none (by simp; omega)] at hi
      cases hi
  refine ⟨hle, h.below, fun a v hk => ?_, fun i cs hg off v ho => hle.1 _ _ (h.glob i cs hg off v ho), fun i ti ht => ?_, fun i bi hi ha => ?_, ?_, fun b' o hx => ?_, h.sent.mono hle.sub, by rw [hle.5]; exact h.fact⟩
  · simp only [G.commit] at hk
    split at hk
    · rename_i hc
      obtain ⟨h1, h2, h3, h4⟩ := hc
      have := hl (a.off - lo) v hk
      rw [show lo + (a.off - lo) = a.off by omega] at this
      obtain ⟨ab, ao, as⟩ := a
      simp only at h1 h2
      subst h1; subst h2
      exact this
    · exact h.kcell a v hk
  · rcases hT i ti ht with ⟨rfl, rfl⟩ | ⟨hlt', ht'⟩
    · exact ⟨by simp, hb, hlt⟩
    · obtain ⟨h1, h2, h3⟩ := h.dom i ti ht'
      exact ⟨by simp; omega, h2, h3⟩
  · rcases hold i bi hi with ⟨rfl, rfl⟩ | ⟨hlt', hi'⟩
    · exact ⟨⟨b, wm, size⟩, by simp [G.commit, G.bind], hok⟩
    · obtain ⟨ti, ht, hk⟩ := h.live i bi hi' ha
      have hne : ti.block ≠ b := fun e => hno (.inl ⟨i, bi, ti, hi', ha, ht, e⟩)
      refine ⟨ti, hle.2 _ _ ht, hk.keep hle rfl fun off v hv => ?_⟩
      simp only [G.commit] at hv
      rw [if_neg (fun hc => hne hc.1)] at hv
      exact hv
  · intro i j bi bj ti tj hne hi hj hai haj hti htj
    rcases hold i bi hi with ⟨rfl, rfl⟩ | ⟨hi1, hi2⟩ <;> rcases hold j bj hj with ⟨rfl, rfl⟩ | ⟨hj1, hj2⟩
    · exact absurd rfl hne
    · rcases hT _ ti hti with ⟨_, rfl⟩ | ⟨hc, _⟩
      · rcases hT j tj htj with ⟨hc, _⟩ | ⟨_, htj'⟩
        · omega
        · exact fun e => hno (.inl ⟨j, bj, tj, hj2, haj, htj', e.symm⟩)
      · omega
    · rcases hT _ tj htj with ⟨_, rfl⟩ | ⟨hc, _⟩
      · rcases hT i ti hti with ⟨hc, _⟩ | ⟨_, hti'⟩
        · omega
        · exact fun e => hno (.inl ⟨i, bi, ti, hi2, hai, hti', e⟩)
      · omega
    · rcases hT i ti hti with ⟨hc, _⟩ | ⟨_, hti'⟩
      · omega
      · rcases hT j tj htj with ⟨hc, _⟩ | ⟨_, htj'⟩
        · omega
        · exact h.apart i j bi bj ti tj hne hi2 hj2 hai haj hti' htj'
  · have hx' : g.X b' = some o := hx
    obtain ⟨h1, h2, h3, h4⟩ := h.ext b' o hx'
    have hne : b' ≠ b := fun e => hno (.inr (by rw [← e, hx']; rfl))
    refine ⟨h1, h2, fun off => ?_, fun i ti ht => ?_⟩
    · simp only [G.commit]
      rw [if_neg fun hc => hne hc.1]
      exact h3 off
    · rcases hT i ti ht with ⟨_, rfl⟩ | ⟨_, ht'⟩
      · exact fun e => hne e.symm
      · exact h4 i ti ht'

/-- What a living number's block holds is turned, and nothing else; more may be known of it. -/
theorem Inv.turn (h : Inv E w0 g m w) {i : Nat} {b nb : AB} {ti : TI} {w' : World} {g' : G} (hi : m[i]? = some b) (ha : b.alive = true) (ht : g.T i = some ti)
    (hbel : Below w0.heap.size w0 w') (hsz : w.heap.size ≤ w'.heap.size) (hheap : ∀ k, k < w.heap.size → k ≠ ti.block → w'.heap[k]? = w.heap[k]?)
    (hle : g.le g') (hT : g'.T = g.T) (hK : ∀ a v, g'.K a = some v → (a.block ≠ ti.block ∧ g.K a = some v) ∨ (a.block = ti.block ∧ w'.cell? a = some v))
    (hok : BlkOk g' w' nb ti) : Inv E w0 g' (m.set i nb) w' := by
  have hilt : i < m.length := (List.getElem?_eq_some_iff.1 hi).1
  have hold : ∀ j bj, (m.set i nb)[j]? = some bj → (j = i ∧ bj = nb) ∨ (j ≠ i ∧ m[j]? = some bj) := by
    intro j bj hj
    rw [List.getElem?_set] at hj
    by_cases he : i = j
    · subst he
      rw [if_pos rfl, if_pos hilt] at hj
      exact .inl ⟨rfl, (Option.some.inj hj).symm⟩
    · rw [if_neg he] at hj
      exact .inr ⟨fun e => he e.symm, hj⟩
  refine ⟨hbel, fun a v hk => ?_, fun k cs hg off v ho => hle.1 _ _ (h.glob k cs hg off v ho), fun j tj htj => ?_, fun j bj hj haj => ?_, ?_, fun b' o hx => ?_, h.sent.mono hle.sub, by rw [hle.5]; exact h.fact⟩
  · rcases hK a v hk with ⟨hne, hk'⟩ | ⟨_, hc⟩
    · rw [World.cell?_of_block (hheap a.block (h.klt hk') hne)]
      exact h.kcell a v hk'
    · exact hc
  · rw [hT] at htj
    obtain ⟨h1, h2, h3⟩ := h.dom j tj htj
    exact ⟨by simpa using h1, h2, by omega⟩
  · rcases hold j bj hj with ⟨rfl, rfl⟩ | ⟨hne, hj'⟩
    · exact ⟨ti, by rw [hT]; exact ht, hok⟩
    · obtain ⟨tj, htj, hk⟩ := h.live j bj hj' haj
      have hbne : tj.block ≠ ti.block := h.apart j i bj b tj ti hne hj' hi haj ha htj ht
      refine ⟨tj, by rw [hT]; exact htj, hk.keep hle (hheap _ (h.dom j tj htj).2.2 hbne) fun off v hv => ?_⟩
      rcases hK _ v hv with ⟨_, hk'⟩ | ⟨he, _⟩
      · exact hk'
      · exact absurd he hbne
  · intro j k bj bk tj tk hne hj hk haj hak htj htk
    rw [hT] at htj htk
    rcases hold j bj hj with ⟨rfl, rfl⟩ | ⟨hnj, hj'⟩ <;> rcases hold k bk hk with ⟨rfl, rfl⟩ | ⟨hnk, hk'⟩
    · exact absurd rfl hne
    · exact h.apart j k b bk tj tk hne hi hk' ha hak htj htk
    · exact h.apart j k bj b tj tk hne hj' hi haj ha htj htk
    · exact h.apart j k bj bk tj tk hne hj' hk' haj hak htj htk
  · rw [hle.3] at hx
    obtain ⟨h1, h2, h3, h4⟩ := h.ext b' o hx
    have hne : ti.block ≠ b' := h4 i ti ht
    refine ⟨(hheap b' (Array.getElem?_eq_some_iff.1 h1).1 fun e => hne e.symm).trans h1, h2, fun off => ?_, fun j tj htj => ?_⟩
    · cases hk : g'.K ⟨b', off, none⟩ with
      | none => rfl
      | some v =>
        rcases hK _ v hk with ⟨_, hk'⟩ | ⟨he, _⟩
        · rw [h3 off] at hk'; cases hk'
        · exact absurd he.symm hne
    · rw [hT] at htj
      exact h4 j tj htj
end
end Go.Vm
