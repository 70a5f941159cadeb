/- The abstract machine: what an abstract value says of a value, and what an abstract memory says of a world. Plain lemmas on both. -/
import Derived.Test.YtmppnmffbmpcpaaDoorVm
namespace Go.Vm
open Go.RowKit

structure TI where
  block : Nat
  wm : Nat
  size : Nat

/-- What is known of the world: cells that are never written again; the blocks that abstract numbers stand for; blocks that were made ahead of their time and wait. -/
structure G where
  K : Addr → Option Value
  T : Nat → Option TI
  X : Nat → Option Obj
  U : Nat → Value
  V : Nat → Value

structure G.le (g g' : G) : Prop where
  k : ∀ a v, g.K a = some v → g'.K a = some v
  t : ∀ i t, g.T i = some t → g'.T i = some t
  x : g'.X = g.X
  u : g'.U = g.U
  v : g'.V = g.V
theorem G.le.refl (g : G) : g.le g := ⟨fun _ _ h => h, fun _ _ h => h, rfl, rfl, rfl⟩
theorem G.le.trans {a b c : G} (h : a.le b) (k : b.le c) : a.le c := ⟨fun x v hx => k.1 x v (h.1 x v hx), fun i t ht => k.2 i t (h.2 i t ht), k.3.trans h.3, k.4.trans h.4, k.5.trans h.5⟩

mutual
def Rep (g : G) : AV → Value → Prop
  | .v x, y => y = x
  | .agg cs, y => ∃ l, y = .agg l.toArray ∧ RepL g cs l
  | .tup cs, y => ∃ l, y = .tuple l.toArray ∧ RepL g cs l
  | .sl cells es n cap own, y => ∃ A c l, y = .slice A n c ∧ c ≤ maxLen ∧ n ≤ c ∧ cells.length ≤ c * es ∧ (∀ k, cap = some k → c = k) ∧ RepL g cells l ∧
      (∀ j v, l[j]? = some v → ∃ ad, A = some ad ∧ g.K (ad.add j) = some v) ∧
      (∀ t, own = some t → ∃ ad ti, A = some ad ∧ ad.spot = none ∧ g.T t = some ti ∧ ti.block = ad.block ∧ ti.wm = ad.off + n * es ∧ ad.off + c * es ≤ ti.size)
  | .ref i off es n cap, y => ∃ ti c, y = .slice (some ⟨ti.block, off, none⟩) n c ∧ g.T i = some ti ∧ c ≤ maxLen ∧ n ≤ c ∧ (∀ k, cap = some k → c = k) ∧ off + c * es ≤ ti.size
  | .ep cells, y => ∃ ad l, y = .pointer (some ad) ∧ RepL g cells l ∧ ∀ j v, l[j]? = some v → g.K (ad.add j) = some v
  | .ptr i off, y => ∃ ti, y = .pointer (some ⟨ti.block, off, none⟩) ∧ g.T i = some ti
  | .mp i, y => ∃ ti, y = .map (some ti.block) ∧ g.T i = some ti
  | .fn f a b, y => ∃ x z, y = .func f x.toArray z.toArray ∧ RepL g a x ∧ RepL g b z
  | .u i, y => y = g.U i ∧ ∃ t p, y = .iface t (.pointer (some p))
  | .x i, y => y = g.V i ∧ Scal y
  | .sem p, y => p.R g.K g.U g.V y
def RepL (g : G) : List AV → List Value → Prop
  | [], l => l = []
  | a :: r, l => ∃ v s, l = v :: s ∧ Rep g a v ∧ RepL g r s
end

structure G.sub (g g' : G) : Prop where
  k : ∀ a v, g.K a = some v → g'.K a = some v
  t : ∀ i t, g.T i = some t → g'.T i = some t
  u : g'.U = g.U
  v : g'.V = g.V
theorem G.le.sub {g g' : G} (h : g.le g') : g.sub g' := ⟨h.1, h.2, h.4, h.5⟩
theorem G.sub.refl (g : G) : g.sub g := ⟨fun _ _ h => h, fun _ _ h => h, rfl, rfl⟩
theorem G.sub.trans {a b c : G} (h : a.sub b) (k : b.sub c) : a.sub c := ⟨fun x v hx => k.1 x v (h.1 x v hx), fun i t ht => k.2 i t (h.2 i t ht), k.3.trans h.3, k.4.trans h.4⟩

mutual
theorem Rep.msub {g g' : G} (h : g.sub g') : ∀ (a : AV) {y : Value}, Rep g a y → Rep g' a y
  | .v _, _, hr => by simpa only [Rep] using hr
  | .agg cs, _, hr => by
    simp only [Rep] at hr ⊢
    obtain ⟨l, e, hl⟩ := hr
    exact ⟨l, e, RepL.msub h cs hl⟩
  | .tup cs, _, hr => by
    simp only [Rep] at hr ⊢
    obtain ⟨l, e, hl⟩ := hr
    exact ⟨l, e, RepL.msub h cs hl⟩
  | .sl cells es n cap own, _, hr => by
    simp only [Rep] at hr ⊢
    obtain ⟨A, c, l, e, h1, h2, h3, h4, hl, h5, h6⟩ := hr
    refine ⟨A, c, l, e, h1, h2, h3, h4, RepL.msub h cells hl, fun j v hj => ?_, fun t ht => ?_⟩
    · obtain ⟨ad, ha, hk⟩ := h5 j v hj
      exact ⟨ad, ha, h.1 _ _ hk⟩
    · obtain ⟨ad, ti, ha, hs, hT, r⟩ := h6 t ht
      exact ⟨ad, ti, ha, hs, h.2 _ _ hT, r⟩
  | .ref _ _ _ _ _, _, hr => by
    simp only [Rep] at hr ⊢
    obtain ⟨ti, c, e, hT, r⟩ := hr
    exact ⟨ti, c, e, h.2 _ _ hT, r⟩
  | .ep cells, _, hr => by
    simp only [Rep] at hr ⊢
    obtain ⟨ad, l, e, hl, hk⟩ := hr
    exact ⟨ad, l, e, RepL.msub h cells hl, fun j v hj => h.1 _ _ (hk j v hj)⟩
  | .ptr _ _, _, hr => by
    simp only [Rep] at hr ⊢
    obtain ⟨ti, e, hT⟩ := hr
    exact ⟨ti, e, h.2 _ _ hT⟩
  | .mp _, _, hr => by
    simp only [Rep] at hr ⊢
    obtain ⟨ti, e, hT⟩ := hr
    exact ⟨ti, e, h.2 _ _ hT⟩
  | .u _, _, hr => by
    simp only [Rep] at hr ⊢
    rw [h.3]
    exact hr
  | .x _, _, hr => by
    simp only [Rep] at hr ⊢
    rw [h.4]
    exact hr
  | .sem p, _, hr => by
    simp only [Rep] at hr ⊢
    rw [h.3, h.4]
    exact p.mono h.1 hr
  | .fn _ a b, _, hr => by
    simp only [Rep] at hr ⊢
    obtain ⟨x, z, e, h1, h2⟩ := hr
    exact ⟨x, z, e, RepL.msub h a h1, RepL.msub h b h2⟩
theorem RepL.msub {g g' : G} (h : g.sub g') : ∀ (cs : List AV) {l : List Value}, RepL g cs l → RepL g' cs l
  | [], _, hr => by simpa only [RepL] using hr
  | a :: r, _, hr => by
    simp only [RepL] at hr ⊢
    obtain ⟨v, s, e, h1, h2⟩ := hr
    exact ⟨v, s, e, Rep.msub h a h1, RepL.msub h r h2⟩
end

theorem Rep.mono {g g' : G} (h : g.le g') (a : AV) {y : Value} (hr : Rep g a y) : Rep g' a y := Rep.msub h.sub a hr
theorem RepL.mono {g g' : G} (h : g.le g') (cs : List AV) {l : List Value} (hr : RepL g cs l) : RepL g' cs l := RepL.msub h.sub cs hr

/-! ### Lists -/
section
variable {g : G}
theorem RepL.nil : RepL g [] [] := by simp only [RepL]
theorem RepL.cons {a : AV} {v : Value} {r : List AV} {s : List Value} (h : Rep g a v) (k : RepL g r s) : RepL g (a :: r) (v :: s) := by
  simp only [RepL]
  exact ⟨v, s, rfl, h, k⟩
theorem RepL.nil_inv {l : List Value} (h : RepL g [] l) : l = [] := by simpa only [RepL] using h
theorem RepL.cons_inv {a : AV} {r : List AV} {l : List Value} (h : RepL g (a :: r) l) : ∃ v s, l = v :: s ∧ Rep g a v ∧ RepL g r s := by simpa only [RepL] using h
theorem RepL.length : ∀ {cs : List AV} {l : List Value}, RepL g cs l → cs.length = l.length
  | [], l, h => by rw [h.nil_inv]; rfl
  | a :: r, l, h => by
    obtain ⟨v, s, rfl, _, h2⟩ := h.cons_inv
    simp [RepL.length h2]
theorem RepL.get : ∀ {cs : List AV} {l : List Value}, RepL g cs l → ∀ {j : Nat} {a : AV}, cs[j]? = some a → ∃ v, l[j]? = some v ∧ Rep g a v
  | [], _, _, j, a, hj => by simp at hj
  | b :: r, l, h, j, a, hj => by
    obtain ⟨v, s, rfl, h1, h2⟩ := h.cons_inv
    cases j with
    | zero =>
      simp at hj
      subst hj
      exact ⟨v, rfl, h1⟩
    | succ j =>
      simp only [List.getElem?_cons_succ] at hj ⊢
      exact RepL.get h2 hj
theorem RepL.get' {cs : List AV} {l : List Value} (h : RepL g cs l) {j : Nat} {v : Value} (hj : l[j]? = some v) : ∃ a, cs[j]? = some a ∧ Rep g a v := by
  have hlt : j < cs.length := by rw [h.length]; exact (List.getElem?_eq_some_iff.1 hj).1
  obtain ⟨u, hu, hr⟩ := h.get (List.getElem?_eq_getElem hlt)
  rw [hj] at hu
  obtain rfl := Option.some.inj hu
  exact ⟨_, List.getElem?_eq_getElem hlt, hr⟩
theorem RepL.of_get : ∀ {cs : List AV} {l : List Value}, cs.length = l.length → (∀ (j : Nat) a v, cs[j]? = some a → l[j]? = some v → Rep g a v) → RepL g cs l
  | [], [], _, _ => .nil
  | [], _ :: _, h, _ => by simp at h
  | _ :: _, [], h, _ => by simp at h
  | a :: r, v :: s, h, k => .cons (k 0 a v rfl rfl) (RepL.of_get (by simpa using h) fun j b u hb hu => k (j + 1) b u (by simpa using hb) (by simpa using hu))
theorem RepL.append : ∀ {cs ds : List AV} {l s : List Value}, RepL g cs l → RepL g ds s → RepL g (cs ++ ds) (l ++ s)
  | [], _, _, _, h, k => by rw [h.nil_inv]; exact k
  | _ :: _, _, _, _, h, k => by
    obtain ⟨v, s, rfl, h1, h2⟩ := h.cons_inv
    exact .cons h1 (RepL.append h2 k)
theorem RepL.take {cs : List AV} {l : List Value} (h : RepL g cs l) (n : Nat) : RepL g (cs.take n) (l.take n) :=
  .of_get (by simp [h.length]) fun j a v ha hv => by
    by_cases hj : j < n
    · simp only [List.getElem?_take, hj, if_true] at ha hv
      obtain ⟨u, hu, hr⟩ := h.get ha
      rw [hv] at hu
      exact Option.some.inj hu ▸ hr
    · simp [List.getElem?_take, hj] at ha
theorem RepL.drop {cs : List AV} {l : List Value} (h : RepL g cs l) (n : Nat) : RepL g (cs.drop n) (l.drop n) :=
  .of_get (by simp [h.length]) fun j a v ha hv => by
    simp only [List.getElem?_drop] at ha hv
    obtain ⟨u, hu, hr⟩ := h.get ha
    rw [hv] at hu
    exact Option.some.inj hu ▸ hr
theorem RepL.set {cs : List AV} {l : List Value} (h : RepL g cs l) {a : AV} {v : Value} (ha : Rep g a v) (n : Nat) : RepL g (cs.set n a) (l.set n v) :=
  .of_get (by simp [h.length]) fun j b u hb hu => by
    rw [List.getElem?_set] at hb hu
    by_cases hj : n = j
    · subst hj
      simp only [if_true] at hb hu
      split at hb <;> split at hu <;> simp_all
    · simp only [hj, if_false] at hb hu
      obtain ⟨u', hu', hr⟩ := h.get hb
      rw [hu] at hu'
      exact Option.some.inj hu' ▸ hr
theorem RepL.of_vals : ∀ (l : List Value), RepL g (l.map .v) l
  | [] => .nil
  | _ :: r => .cons (by simp only [Rep]) (RepL.of_vals r)
theorem RepL.vals : ∀ {l s : List Value}, RepL g (l.map .v) s → s = l
  | [], _, h => h.nil_inv
  | _ :: r, _, h => by
    obtain ⟨v, s, rfl, h1, h2⟩ := h.cons_inv
    simp only [Rep] at h1
    rw [h1, RepL.vals h2]
theorem RepL.replicate {a : AV} {v : Value} (h : Rep g a v) (n : Nat) : RepL g (List.replicate n a) (List.replicate n v) :=
  .of_get (by simp) fun j b u hb hu => by
    rw [List.getElem?_replicate] at hb hu
    split at hb <;> simp_all
theorem RepL.putAt {cs xs : List AV} {l s : List Value} (h : RepL g cs l) (k : RepL g xs s) (off : Nat) : RepL g (putAt cs off xs) (l.take off ++ s ++ l.drop (off + s.length)) := by
  unfold Go.Vm.putAt
  rw [← k.length]
  exact ((h.take off).append k).append (h.drop _)
end

/-! ### Exact values -/
mutual
theorem Rep.flat {g : G} : ∀ (a : AV) {x y : Value}, a.flat = some x → Rep g a y → y = x
  | .v x, _, _, h, hr => by
    simp only [AV.flat, Option.some.injEq] at h
    subst h
    simpa only [Rep] using hr
  | .agg cs, _, _, h, hr => by
    simp only [AV.flat, Option.map_eq_some_iff] at h
    simp only [Rep] at hr
    obtain ⟨l, hl, rfl⟩ := h
    obtain ⟨l', rfl, hr⟩ := hr
    rw [RepL.flat cs hl hr]
  | .tup cs, _, _, h, hr => by
    simp only [AV.flat, Option.map_eq_some_iff] at h
    simp only [Rep] at hr
    obtain ⟨l, hl, rfl⟩ := h
    obtain ⟨l', rfl, hr⟩ := hr
    rw [RepL.flat cs hl hr]
  | .fn f a b, _, _, h, hr => by
    simp only [AV.flat, Option.bind_eq_some_iff, Option.map_eq_some_iff] at h
    simp only [Rep] at hr
    obtain ⟨x, hx, z, hz, rfl⟩ := h
    obtain ⟨x', z', rfl, h1, h2⟩ := hr
    rw [RepL.flat a hx h1, RepL.flat b hz h2]
  | .sl .., _, _, h, _ => by simp [AV.flat] at h
  | .ref .., _, _, h, _ => by simp [AV.flat] at h
  | .ep _, _, _, h, _ => by simp [AV.flat] at h
  | .ptr .., _, _, h, _ => by simp [AV.flat] at h
  | .mp _, _, _, h, _ => by simp [AV.flat] at h
  | .u _, _, _, h, _ => by simp [AV.flat] at h
  | .x _, _, _, h, _ => by simp [AV.flat] at h
  | .sem _, _, _, h, _ => by simp [AV.flat] at h
theorem RepL.flat {g : G} : ∀ (cs : List AV) {l s : List Value}, flatL cs = some l → RepL g cs s → s = l
  | [], _, _, h, hr => by
    simp only [flatL, Option.some.injEq] at h
    subst h
    exact hr.nil_inv
  | a :: r, _, _, h, hr => by
    simp only [flatL, Option.bind_eq_some_iff, Option.map_eq_some_iff] at h
    obtain ⟨x, hx, l, hl, rfl⟩ := h
    obtain ⟨v, s, rfl, h1, h2⟩ := hr.cons_inv
    rw [Rep.flat a hx h1, RepL.flat r hl h2]
end

theorem Rep.cells {g : G} {a : AV} {v : Value} (h : Rep g a v) : RepL g a.cells v.cells.toList := by
  cases a with
  | v x =>
    simp only [Rep] at h
    subst h
    cases v with
    | agg cs => simp only [AV.cells, Value.cells]; exact .of_vals _
    | _ => exact .cons (by simp only [Rep]) .nil
  | agg cs =>
    simp only [Rep] at h
    obtain ⟨l, rfl, hl⟩ := h
    simpa only [AV.cells, Value.cells] using hl
  | tup cs =>
    have h' := h
    simp only [Rep] at h
    obtain ⟨l, rfl, hl⟩ := h
    exact .cons h' .nil
  | sl cells es n cap own =>
    have h' := h
    simp only [Rep] at h
    obtain ⟨A, c, l, rfl, _⟩ := h
    exact .cons h' .nil
  | ref i off es n cap =>
    have h' := h
    simp only [Rep] at h
    obtain ⟨ti, c, rfl, _⟩ := h
    exact .cons h' .nil
  | ep cells =>
    have h' := h
    simp only [Rep] at h
    obtain ⟨ad, l, rfl, _⟩ := h
    exact .cons h' .nil
  | ptr i off =>
    have h' := h
    simp only [Rep] at h
    obtain ⟨ti, rfl, _⟩ := h
    exact .cons h' .nil
  | fn f a b =>
    have h' := h
    simp only [Rep] at h
    obtain ⟨x, z, rfl, _⟩ := h
    exact .cons h' .nil
  | mp i =>
    have h' := h
    simp only [Rep] at h
    obtain ⟨ti, rfl, _⟩ := h
    exact .cons h' .nil
  | u i =>
    have h' := h
    simp only [Rep] at h
    obtain ⟨_, t, p, rfl⟩ := h
    exact .cons h' .nil
  | x i =>
    have h' := h
    simp only [Rep] at h
    cases v with
    | agg cs => exact absurd rfl (h.2.1 cs)
    | _ => exact .cons h' .nil
  | sem p =>
    have h' := h
    simp only [Rep] at h
    cases v with
    | agg cs => exact absurd rfl ((p.scal h).1 cs)
    | _ => exact .cons h' .nil

theorem Rep.one {g : G} {a : AV} {v : Value} (h : Rep g a v) (k : a.one = true) : (∀ cs, v ≠ .agg cs) ∧ (∀ cs, v ≠ .tuple cs) := by
  cases a with
  | v x =>
    simp only [Rep] at h
    subst h
    cases v <;> simp_all [AV.one]
  | agg cs => simp [AV.one] at k
  | tup cs => simp [AV.one] at k
  | sl cells es n cap own => simp only [Rep] at h; obtain ⟨A, c, l, rfl, _⟩ := h; simp
  | ref i off es n cap => simp only [Rep] at h; obtain ⟨ti, c, rfl, _⟩ := h; simp
  | ep cells => simp only [Rep] at h; obtain ⟨ad, l, rfl, _⟩ := h; simp
  | ptr i off => simp only [Rep] at h; obtain ⟨ti, rfl, _⟩ := h; simp
  | fn f a b => simp only [Rep] at h; obtain ⟨x, z, rfl, _⟩ := h; simp
  | mp i => simp only [Rep] at h; obtain ⟨ti, rfl, _⟩ := h; simp
  | u i => simp only [Rep] at h; obtain ⟨_, t, p, rfl⟩ := h; simp
  | x i => simp only [Rep] at h; exact ⟨h.2.1, h.2.2.1⟩
  | sem p => simp only [Rep] at h; exact ⟨(p.scal h).1, (p.scal h).2.1⟩

/-! ### Equality, decided -/
mutual
theorem vbeq_eq : ∀ (a b : Value), vbeq a b = true → a = b
  | .bool a, b, h => by cases b <;> simp_all [vbeq]
  | .int .., b, h => by cases b <;> simp_all [vbeq]
  | .float .., b, h => by cases b <;> simp_all [vbeq]
  | .complex .., b, h => by cases b <;> simp [vbeq] at h
  | .string ⟨⟨a⟩⟩, b, h => by
    cases b with
    | string c =>
      cases c with
      | mk c =>
        cases c with
        | mk c =>
          simp only [vbeq, beq_iff_eq] at h
          rw [h]
    | _ => simp [vbeq] at h
  | .pointer _, b, h => by cases b <;> simp_all [vbeq]
  | .slice .., b, h => by cases b <;> simp_all [vbeq]
  | .map _, b, h => by cases b <;> simp_all [vbeq]
  | .chan _, b, h => by cases b <;> simp [vbeq] at h
  | .func .., b, h => by cases b <;> simp [vbeq] at h
  | .nilFunc, b, h => by cases b <;> simp_all [vbeq]
  | .nilIface, b, h => by cases b <;> simp_all [vbeq]
  | .iface t a, b, h => by
    cases b with
    | iface u c =>
      simp only [vbeq, Bool.and_eq_true, beq_iff_eq] at h
      rw [h.1, vbeq_eq a c h.2]
    | _ => simp [vbeq] at h
  | .agg ⟨a⟩, b, h => by
    cases b with
    | agg c =>
      cases c with
      | mk c =>
        simp only [vbeq] at h
        rw [vbeqL_eq a c h]
    | _ => simp [vbeq] at h
  | .tuple ⟨a⟩, b, h => by
    cases b with
    | tuple c =>
      cases c with
      | mk c =>
        simp only [vbeq] at h
        rw [vbeqL_eq a c h]
    | _ => simp [vbeq] at h
theorem vbeqL_eq : ∀ (a b : List Value), vbeqL a b = true → a = b
  | [], b, h => by cases b <;> simp_all [vbeqL]
  | a :: r, b, h => by
    cases b with
    | nil => simp [vbeqL] at h
    | cons c s =>
      simp only [vbeqL, Bool.and_eq_true] at h
      rw [vbeq_eq a c h.1, vbeqL_eq r s h.2]
end
mutual
theorem beq_eq : ∀ (a b : AV), a.beq b = true → a = b
  | .v a, b, h => by
    cases b with
    | v c => simp only [AV.beq] at h; rw [vbeq_eq a c h]
    | _ => simp [AV.beq] at h
  | .agg a, b, h => by
    cases b with
    | agg c => simp only [AV.beq] at h; rw [beqL_eq a c h]
    | _ => simp [AV.beq] at h
  | .tup a, b, h => by
    cases b with
    | tup c => simp only [AV.beq] at h; rw [beqL_eq a c h]
    | _ => simp [AV.beq] at h
  | .ep a, b, h => by
    cases b with
    | ep c => simp only [AV.beq] at h; rw [beqL_eq a c h]
    | _ => simp [AV.beq] at h
  | .sl a e n c o, b, h => by
    cases b with
    | sl a' e' n' c' o' =>
      simp only [AV.beq, Bool.and_eq_true, beq_iff_eq] at h
      obtain ⟨⟨⟨⟨h1, rfl⟩, rfl⟩, rfl⟩, rfl⟩ := h
      rw [beqL_eq a a' h1]
    | _ => simp [AV.beq] at h
  | .ref .., b, h => by cases b <;> simp_all [AV.beq]
  | .ptr .., b, h => by cases b <;> simp_all [AV.beq]
  | .mp _, b, h => by cases b <;> simp_all [AV.beq]
  | .u _, b, h => by cases b <;> simp_all [AV.beq]
  | .x _, b, h => by cases b <;> simp_all [AV.beq]
  | .sem _, b, h => by cases b <;> simp [AV.beq] at h
  | .fn .., b, h => by cases b <;> simp [AV.beq] at h
theorem beqL_eq : ∀ (a b : List AV), beqL a b = true → a = b
  | [], b, h => by cases b <;> simp_all [beqL]
  | a :: r, b, h => by
    cases b with
    | nil => simp [beqL] at h
    | cons c s =>
      simp only [beqL, Bool.and_eq_true] at h
      rw [beq_eq a c h.1, beqL_eq r s h.2]
end

theorem pureRun_ok {α : Type} {P : Program} : ∀ (s : Sem α) {a : α}, pureRun P s = some (.inl a) → ∀ w, s.run P w = .ok a w
  | .pure _, _, h, w => by simp only [pureRun, Option.some.injEq, Sum.inl.injEq] at h; subst h; rfl
  | .program k, _, h, w => by simp only [pureRun] at h; exact pureRun_ok (k P) h w
  | .mark _ k, _, h, w => by simp only [pureRun] at h; exact pureRun_ok k h w
  | .halt x, _, h, w => by cases x <;> simp [pureRun] at h
  | .load .., _, h, _ => by simp [pureRun] at h
  | .store .., _, h, _ => by simp [pureRun] at h
  | .new .., _, h, _ => by simp [pureRun] at h
  | .shape .., _, h, _ => by simp [pureRun] at h
  | .freeze .., _, h, _ => by simp [pureRun] at h
  | .frozen .., _, h, _ => by simp [pureRun] at h
  | .getObj .., _, h, _ => by simp [pureRun] at h
  | .setObj .., _, h, _ => by simp [pureRun] at h
  | .choose .., _, h, _ => by simp [pureRun] at h
  | .sys .., _, h, _ => by simp [pureRun] at h
theorem pureRun_panic {α : Type} {P : Program} : ∀ (s : Sem α) {x : Value}, pureRun P s = some (.inr x) → ∀ w, s.run P w = .halt (.panic x) w
  | .pure _, _, h, w => by simp [pureRun] at h
  | .program k, _, h, w => by simp only [pureRun] at h; exact pureRun_panic (k P) h w
  | .mark _ k, _, h, w => by simp only [pureRun] at h; exact pureRun_panic k h w
  | .halt x, _, h, w => by
    cases x <;> simp only [pureRun, Option.some.injEq, Sum.inr.injEq, reduceCtorEq] at h
    subst h
    rfl
  | .load .., _, h, _ => by simp [pureRun] at h
  | .store .., _, h, _ => by simp [pureRun] at h
  | .new .., _, h, _ => by simp [pureRun] at h
  | .shape .., _, h, _ => by simp [pureRun] at h
  | .freeze .., _, h, _ => by simp [pureRun] at h
  | .frozen .., _, h, _ => by simp [pureRun] at h
  | .getObj .., _, h, _ => by simp [pureRun] at h
  | .setObj .., _, h, _ => by simp [pureRun] at h
  | .choose .., _, h, _ => by simp [pureRun] at h
  | .sys .., _, h, _ => by simp [pureRun] at h
end Go.Vm
