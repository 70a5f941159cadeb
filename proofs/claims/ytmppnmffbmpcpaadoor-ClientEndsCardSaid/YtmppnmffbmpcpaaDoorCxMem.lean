/- The symbolic layer: what a call leaves of memory that nobody needs is forgotten; a slice that grows. -/
import Derived.Test.YtmppnmffbmpcpaaDoorCxOp
set_option linter.unusedVariables false
set_option linter.unusedSimpArgs false
namespace Go.Vm
open Go.RowKit

def G.trim (g : G) (n : Nat) : G := { g with T := fun i => if i < n then g.T i else none }

/-- Nothing of it hangs on a number from n on. -/
def Nf (n : Nat) (x : AV) : Prop := ∀ (g : G) (v : Value), Rep g x v → Rep (g.trim n) x v
def NfL (n : Nat) (xs : List AV) : Prop := ∀ (g : G) (l : List Value), RepL g xs l → RepL (g.trim n) xs l
/-- Whatever x says of a value, y says too. -/
def Le (x y : AV) : Prop := ∀ (g : G) (v : Value), Rep g x v → Rep g y v

theorem NfL.of {n : Nat} {xs : List AV} (h : ∀ x ∈ xs, Nf n x) : NfL n xs := fun g l hl =>
  .of_get hl.length fun j a v ha hv => by
    obtain ⟨u, hu, hr⟩ := hl.get ha
    rw [hv] at hu
    obtain rfl := Option.some.inj hu
    exact h a (List.mem_of_getElem? ha) g v hr
theorem Nf.v {n : Nat} {x : Value} : Nf n (.v x) := fun g v h => by simpa only [Rep] using h
theorem Nf.u {n i : Nat} : Nf n (.u i) := fun g v h => by simpa only [Rep, G.trim] using h
theorem Nf.x {n i : Nat} : Nf n (.x i) := fun g v h => by simpa only [Rep, G.trim] using h
theorem Nf.sem {n : Nat} {p : SemP} : Nf n (.sem p) := fun g v h => by simpa only [Rep, G.trim] using h
theorem Nf.agg {n : Nat} {cs : List AV} (h : ∀ x ∈ cs, Nf n x) : Nf n (.agg cs) := fun g v hr => by
  simp only [Rep] at hr ⊢
  obtain ⟨l, e, hl⟩ := hr
  exact ⟨l, e, NfL.of h g l hl⟩
theorem Nf.tup {n : Nat} {cs : List AV} (h : ∀ x ∈ cs, Nf n x) : Nf n (.tup cs) := fun g v hr => by
  simp only [Rep] at hr ⊢
  obtain ⟨l, e, hl⟩ := hr
  exact ⟨l, e, NfL.of h g l hl⟩
theorem Nf.sl {n : Nat} {cs : List AV} {es k : Nat} {cap : Option Nat} (h : ∀ x ∈ cs, Nf n x) : Nf n (.sl cs es k cap none) := fun g v hr => by
  simp only [Rep] at hr ⊢
  obtain ⟨A, c, l, e, h1, h2, h3, h4, hl, h5, h6⟩ := hr
  exact ⟨A, c, l, e, h1, h2, h3, h4, NfL.of h g l hl, h5, fun t ht => by cases ht⟩
theorem Nf.ep {n : Nat} {cs : List AV} (h : ∀ x ∈ cs, Nf n x) : Nf n (.ep cs) := fun g v hr => by
  simp only [Rep] at hr ⊢
  obtain ⟨ad, l, e, hl, hk⟩ := hr
  exact ⟨ad, l, e, NfL.of h g l hl, hk⟩
theorem Nf.ptr {n i off : Nat} (hi : i < n) : Nf n (.ptr i off) := fun g v hr => by
  simp only [Rep] at hr ⊢
  obtain ⟨ti, e, hT⟩ := hr
  exact ⟨ti, e, by simp only [G.trim]; rw [if_pos hi]; exact hT⟩
theorem Nf.fn {n : Nat} {f : Fn} {a b : List AV} (ha : ∀ x ∈ a, Nf n x) (hb : ∀ x ∈ b, Nf n x) : Nf n (.fn f a b) := fun g v hr => by
  simp only [Rep] at hr ⊢
  obtain ⟨x, z, e, h1, h2⟩ := hr
  exact ⟨x, z, e, NfL.of ha g x h1, NfL.of hb g z h2⟩
theorem Nf.bytes {n : Nat} (l : List UInt8) : ∀ x ∈ bytesA l, Nf n x := by
  intro x hx
  simp only [bytesA, List.mem_map] at hx
  obtain ⟨b, _, rfl⟩ := hx
  exact Nf.v
theorem Nf.vals {n : Nat} (l : List Value) : ∀ x ∈ l.map AV.v, Nf n x := by
  intro x hx
  simp only [List.mem_map] at hx
  obtain ⟨b, _, rfl⟩ := hx
  exact Nf.v

theorem Le.refl (x : AV) : Le x x := fun _ _ h => h
theorem Le.disown {cs : List AV} {es k : Nat} {cap own : Option Nat} : Le (.sl cs es k cap own) (.sl cs es k none none) := fun g v hr => by
  simp only [Rep] at hr ⊢
  obtain ⟨A, c, l, e, h1, h2, h3, h4, hl, h5, h6⟩ := hr
  exact ⟨A, c, l, e, h1, h2, h3, fun k hk => (by cases hk), hl, h5, fun t ht => by cases ht⟩
theorem Le.disown' {cs : List AV} {es k : Nat} {cap own : Option Nat} : Le (.sl cs es k cap own) (.sl cs es k cap none) := fun g v hr => by
  simp only [Rep] at hr ⊢
  obtain ⟨A, c, l, e, h1, h2, h3, h4, hl, h5, h6⟩ := hr
  exact ⟨A, c, l, e, h1, h2, h3, h4, hl, h5, fun t ht => by cases ht⟩
theorem Le.nil {es : Nat} : Le (.v (.slice none 0 0)) (.sl [] es 0 none none) := fun g v hr => by
  simp only [Rep] at hr ⊢
  exact ⟨none, 0, [], hr, by decide, Nat.le_refl _, by simp, fun k hk => (by cases hk), .nil, fun j v hj => (by simp at hj), fun t ht => by cases ht⟩
theorem LeL {xs ys : List AV} (hl : xs.length = ys.length) (h : ∀ (j : Nat) x y, xs[j]? = some x → ys[j]? = some y → Le x y) (g : G) (l : List Value) (hr : RepL g xs l) : RepL g ys l :=
  .of_get (by rw [← hl]; exact hr.length) fun j y v hy hv => by
    obtain ⟨x, hx, hxr⟩ := hr.get' hv
    exact h j x y hx hy g v hxr
def LeL2 : List AV → List AV → Prop
  | [], [] => True
  | x :: xs, y :: ys => Le x y ∧ LeL2 xs ys
  | _, _ => False
theorem LeL2.rep : ∀ {xs ys : List AV}, LeL2 xs ys → ∀ {g : G} {l : List Value}, RepL g xs l → RepL g ys l
  | [], [], _, _, _, h => h
  | x :: xs, y :: ys, ⟨h1, h2⟩, g, l, h => by
    obtain ⟨v, s, rfl, k1, k2⟩ := h.cons_inv
    exact .cons (h1 g v k1) (LeL2.rep h2 k2)
  | [], _ :: _, h, _, _, _ => h.elim
  | _ :: _, [], h, _, _, _ => h.elim
theorem Le.agg {xs ys : List AV} (h : LeL2 xs ys) : Le (.agg xs) (.agg ys) := fun g v hr => by
  simp only [Rep] at hr ⊢
  obtain ⟨l, e, hl⟩ := hr
  exact ⟨l, e, h.rep hl⟩
theorem Le.tup {xs ys : List AV} (h : LeL2 xs ys) : Le (.tup xs) (.tup ys) := fun g v hr => by
  simp only [Rep] at hr ⊢
  obtain ⟨l, e, hl⟩ := hr
  exact ⟨l, e, h.rep hl⟩
theorem LeL2.refl : ∀ xs : List AV, LeL2 xs xs
  | [] => trivial
  | x :: xs => ⟨Le.refl x, LeL2.refl xs⟩
theorem Le.tup2 {a b a' b' : AV} (h1 : Le a a') (h2 : Le b b') : Le (.tup [a, b]) (.tup [a', b']) := fun g v hr => by
  simp only [Rep] at hr ⊢
  obtain ⟨l, e, hl⟩ := hr
  refine ⟨l, e, ?_⟩
  obtain ⟨v1, s, rfl, k1, k2⟩ := hl
  obtain ⟨v2, s2, rfl, k3, k4⟩ := k2
  exact ⟨v1, _, rfl, h1 g _ k1, v2, s2, rfl, h2 g _ k3, k4⟩
theorem Le.tup3 {a b c a' b' c' : AV} (h1 : Le a a') (h2 : Le b b') (h3 : Le c c') : Le (.tup [a, b, c]) (.tup [a', b', c']) := fun g v hr => by
  simp only [Rep] at hr ⊢
  obtain ⟨l, e, hl⟩ := hr
  refine ⟨l, e, ?_⟩
  obtain ⟨v1, s, rfl, k1, k2⟩ := hl
  obtain ⟨v2, s2, rfl, k3, k4⟩ := k2
  obtain ⟨v3, s3, rfl, k5, k6⟩ := k4
  exact ⟨v1, _, rfl, h1 g _ k1, v2, _, rfl, h2 g _ k3, v3, s3, rfl, h3 g _ k5, k6⟩

/-! What was there at the start names no number that is new. -/
mutual
theorem Rep.old {n : Nat} {g0 g : G} (h0 : ∀ i ti, g0.T i = some ti → i < n) : ∀ (a : AV) {v0 v : Value}, Rep g0 a v0 → Rep g a v → Rep (g.trim n) a v
  | .v _, _, _, _, h => by simpa only [Rep] using h
  | .agg cs, _, _, k, h => by
    simp only [Rep] at h k ⊢
    obtain ⟨l, e, hl⟩ := h
    obtain ⟨l0, e0, hl0⟩ := k
    exact ⟨l, e, RepL.old h0 cs hl0 hl⟩
  | .tup cs, _, _, k, h => by
    simp only [Rep] at h k ⊢
    obtain ⟨l, e, hl⟩ := h
    obtain ⟨l0, e0, hl0⟩ := k
    exact ⟨l, e, RepL.old h0 cs hl0 hl⟩
  | .sl cells es k cap own, _, _, kk, hr => by
    simp only [Rep] at hr kk ⊢
    obtain ⟨A, c, l, e, h1, h2, h3, h4, hl, h5, h6⟩ := hr
    obtain ⟨_, _, l0, _, _, _, _, _, hl0, _, k6⟩ := kk
    refine ⟨A, c, l, e, h1, h2, h3, h4, RepL.old h0 cells hl0 hl, h5, fun t ht => ?_⟩
    obtain ⟨ad, ti, ha, hs, hT, r⟩ := h6 t ht
    obtain ⟨_, ti0, _, _, hT0, _⟩ := k6 t ht
    exact ⟨ad, ti, ha, hs, by simp only [G.trim]; rw [if_pos (h0 _ _ hT0)]; exact hT, r⟩
  | .ref i _ _ _ _, _, _, k, hr => by
    simp only [Rep] at hr k ⊢
    obtain ⟨ti, c, e, hT, r⟩ := hr
    obtain ⟨_, _, _, hT0, _⟩ := k
    exact ⟨ti, c, e, by simp only [G.trim]; rw [if_pos (h0 _ _ hT0)]; exact hT, r⟩
  | .ep cells, _, _, k, hr => by
    simp only [Rep] at hr k ⊢
    obtain ⟨ad, l, e, hl, hk⟩ := hr
    obtain ⟨_, l0, _, hl0, _⟩ := k
    exact ⟨ad, l, e, RepL.old h0 cells hl0 hl, hk⟩
  | .ptr _ _, _, _, k, hr => by
    simp only [Rep] at hr k ⊢
    obtain ⟨ti, e, hT⟩ := hr
    obtain ⟨_, _, hT0⟩ := k
    exact ⟨ti, e, by simp only [G.trim]; rw [if_pos (h0 _ _ hT0)]; exact hT⟩
  | .mp _, _, _, k, hr => by
    simp only [Rep] at hr k ⊢
    obtain ⟨ti, e, hT⟩ := hr
    obtain ⟨_, _, hT0⟩ := k
    exact ⟨ti, e, by simp only [G.trim]; rw [if_pos (h0 _ _ hT0)]; exact hT⟩
  | .u _, _, _, _, h => by simpa only [Rep, G.trim] using h
  | .x _, _, _, _, h => by simpa only [Rep, G.trim] using h
  | .sem _, _, _, _, h => by simpa only [Rep, G.trim] using h
  | .fn _ a b, _, _, k, hr => by
    simp only [Rep] at hr k ⊢
    obtain ⟨x, z, e, h1, h2⟩ := hr
    obtain ⟨x0, z0, _, k1, k2⟩ := k
    exact ⟨x, z, e, RepL.old h0 a k1 h1, RepL.old h0 b k2 h2⟩
theorem RepL.old {n : Nat} {g0 g : G} (h0 : ∀ i ti, g0.T i = some ti → i < n) : ∀ (cs : List AV) {l0 l : List Value}, RepL g0 cs l0 → RepL g cs l → RepL (g.trim n) cs l
  | [], _, _, _, h => by simpa only [RepL] using h
  | a :: r, _, _, k, h => by
    simp only [RepL] at h k ⊢
    obtain ⟨v, s, e, h1, h2⟩ := h
    obtain ⟨v0, s0, _, k1, k2⟩ := k
    exact ⟨v, s, e, Rep.old h0 a k1 h1, RepL.old h0 r k2 h2⟩
end
theorem MapRep.old {n : Nat} {g0 g : G} (h0 : ∀ i ti, g0.T i = some ti → i < n) : ∀ {es : List (Value × AV × Nat)} {l0 l : List MapEntry}, MapRep g0 es l0 → MapRep g es l → MapRep (g.trim n) es l
  | [], _, _, _, h => h
  | e :: r, _, _, ⟨_, _, _, _, k2, _, k4⟩, ⟨e1, s, h0', h1, h2, h3, h4⟩ => ⟨e1, s, h0', h1, Rep.old h0 _ k2 h2, h3, MapRep.old h0 k4 h4⟩
theorem MapRep.nf {n : Nat} {g : G} : ∀ {es : List (Value × AV × Nat)} {l : List MapEntry}, (∀ e ∈ es, Nf n e.2.1) → MapRep g es l → MapRep (g.trim n) es l
  | [], _, _, h => h
  | e :: r, _, hn, ⟨e1, s, h0', h1, h2, h3, h4⟩ => ⟨e1, s, h0', h1, hn e (by simp) g _ h2, h3, MapRep.nf (fun e he => hn e (by simp [he])) h4⟩

/-- A block that names no number from n on. -/
def BNf (n : Nat) : AB → Prop
  | .wr cells _ _ | .frz cells _ => ∀ x ∈ cells, Nf n x
  | .map es _ => ∀ e ∈ es, Nf n e.2.1
  | _ => True

section
variable {E : Env} {w0 : World} {g : G} {w : World}

theorem BlkOk.nf {n : Nat} {b : AB} {ti : TI} (h : BNf n b) (hb : BlkOk g w b ti) : BlkOk (g.trim n) w b ti := by
  cases b with
  | dead => trivial
  | tok => exact hb
  | wr cells e part =>
    obtain ⟨cs, fr, h1, h2, h3, h4, h5, h6⟩ := hb
    exact ⟨cs, fr, h1, h2, h3, NfL.of h g _ h4, h5, h6⟩
  | frz cells e =>
    obtain ⟨cs, fr, h1, h2, h3, h4, h5⟩ := hb
    exact ⟨cs, fr, h1, h2, h3, NfL.of h g _ h4, h5⟩
  | map es clock =>
    obtain ⟨ents, h1, h2⟩ := hb
    exact ⟨ents, h1, h2.nf h⟩
theorem BlkOk.old {n : Nat} {g0 : G} {wo : World} (h0 : ∀ i ti, g0.T i = some ti → i < n) {b : AB} {ti ti0 : TI} (k : BlkOk g0 wo b ti0) (hb : BlkOk g w b ti) : BlkOk (g.trim n) w b ti := by
  cases b with
  | dead => trivial
  | tok => exact hb
  | wr cells e part =>
    obtain ⟨cs, fr, h1, h2, h3, h4, h5, h6⟩ := hb
    obtain ⟨_, _, _, _, _, k4, _⟩ := k
    exact ⟨cs, fr, h1, h2, h3, RepL.old h0 _ k4 h4, h5, h6⟩
  | frz cells e =>
    obtain ⟨cs, fr, h1, h2, h3, h4, h5⟩ := hb
    obtain ⟨_, _, _, _, _, k4, _⟩ := k
    exact ⟨cs, fr, h1, h2, h3, RepL.old h0 _ k4 h4, h5⟩
  | map es clock =>
    obtain ⟨ents, h1, h2⟩ := hb
    obtain ⟨_, _, k2⟩ := k
    exact ⟨ents, h1, MapRep.old h0 k2 h2⟩

theorem Inv.trim {m1 l : AM} (h : Inv E w0 g (m1 ++ l) w) (hb : ∀ i b ti, m1[i]? = some b → b.alive = true → g.T i = some ti → BlkOk g w b ti → BlkOk (g.trim m1.length) w b ti) : Inv E w0 (g.trim m1.length) m1 w := by
  have hT : ∀ i ti, (g.trim m1.length).T i = some ti → i < m1.length ∧ g.T i = some ti := fun i ti ht => by
    simp only [G.trim] at ht
    split at ht
    · exact ⟨by assumption, ht⟩
    · cases ht
  have hget : ∀ (i : Nat) b, m1[i]? = some b → (m1 ++ l)[i]? = some b ∧ i < m1.length := fun i b hb => by
    have hl := (List.getElem?_eq_some_iff.1 hb).1
    exact ⟨by rw [List.getElem?_append_left hl]; exact hb, hl⟩
  refine ⟨h.below, h.kcell, h.glob, fun i ti ht => ?_, fun i b hi ha => ?_, fun i j bi bj ti tj hne hi hj hai haj hti htj => ?_, fun b o hx => ?_, ⟨h.sent.1, h.sent.2, h.sent.3⟩, h.fact⟩
  · obtain ⟨h1, h2⟩ := hT i ti ht
    exact ⟨h1, (h.dom i ti h2).2⟩
  · obtain ⟨h1, h2⟩ := hget i b hi
    obtain ⟨ti, ht, hk⟩ := h.live i b h1 ha
    exact ⟨ti, by simp only [G.trim]; rw [if_pos h2]; exact ht, hb i b ti hi ha ht hk⟩
  · exact h.apart i j bi bj ti tj hne (hget i bi hi).1 (hget j bj hj).1 hai haj (hT i ti hti).2 (hT j tj htj).2
  · obtain ⟨h1, h2, h3, h4⟩ := h.ext b o hx
    exact ⟨h1, h2, h3, fun i ti ht => h4 i ti (hT i ti ht).2⟩

def CR.le : CR → CR → Prop
  | .ret x, .ret y => Le x y
  | .pan x, .pan y => Le x y
  | _, _ => False
def CR.val : CR → AV
  | .ret x => x
  | .pan x => x

/-- The memory that is new is forgotten. -/
theorem Spec.trim {f : FuncId} {args : List AV} {m : AM} {S S' : CR → AM → Prop} (h : Spec E f args m S)
    (ht : ∀ r m', S r m' → ∃ m1 l r', m' = m1 ++ l ∧ m1.length = m.length ∧ (∀ (i : Nat) b, m1[i]? = some b → b.alive = true → m[i]? = some b ∨ BNf m.length b) ∧ r.le r' ∧ Nf m.length r'.val ∧ S' r' m1) : Spec E f args m S' := by
  refine ⟨h.1, fun w0 g w vs hi ha => Calls.mono (h.2 w0 g w vs hi ha) fun e w' hp => ?_⟩
  obtain ⟨r, m', g', hs, hle, hi', hrest⟩ := hp
  obtain ⟨m1, l, r', rfl, hlen, hblk, hrr, hnf, hs'⟩ := ht r m' hs
  have hdom : ∀ i ti, g.T i = some ti → i < m1.length := fun i ti ht => by rw [hlen]; exact (hi.dom i ti ht).1
  have hgle : g.le (g'.trim m1.length) := ⟨hle.1, fun i ti ht => by simp only [G.trim]; rw [if_pos (hdom i ti ht)]; exact hle.2 i ti ht, hle.3, hle.4, hle.5⟩
  have hinv : Inv E w0 (g'.trim m1.length) m1 w' := by
    refine hi'.trim fun i b ti hb hal htb hok => ?_
    rcases hblk i b hb hal with h1 | h1
    · obtain ⟨ti0, ht0, hk0⟩ := hi.live i b h1 hal
      exact BlkOk.old hdom hk0 hok
    · rw [hlen]; exact BlkOk.nf h1 hok
  refine ⟨r', m1, g'.trim m1.length, hs', hgle, hinv, ?_⟩
  rw [← hlen] at hnf
  cases r with
  | ret x =>
    cases r' with
    | ret y =>
      obtain ⟨v, rfl, hv⟩ := hrest
      exact ⟨v, rfl, hnf _ _ (hrr _ _ hv)⟩
    | pan y => exact hrr.elim
  | pan x =>
    cases r' with
    | pan y =>
      obtain ⟨v, rfl, hv⟩ := hrest
      exact ⟨v, rfl, hnf _ _ (hrr _ _ hv)⟩
    | ret y => exact hrr.elim

/-- The memory is the old one with something behind. -/
def Ext (m m' : AM) : Prop := ∃ l, m' = m ++ l
theorem Ext.refl (m : AM) : Ext m m := ⟨[], by simp⟩
theorem Ext.snoc {m m' : AM} (h : Ext m m') (b : AB) : Ext m (m' ++ [b]) := by
  obtain ⟨l, rfl⟩ := h
  exact ⟨l ++ [b], by simp⟩
theorem Ext.set {m m' : AM} (h : Ext m m') {i : Nat} (hi : m.length ≤ i) (b : AB) : Ext m (m'.set i b) := by
  obtain ⟨l, rfl⟩ := h
  exact ⟨l.set (i - m.length) b, by rw [List.set_append_right _ _ hi]⟩
theorem Ext.trans {a b c : AM} (h : Ext a b) (k : Ext b c) : Ext a c := by
  obtain ⟨l, rfl⟩ := h
  obtain ⟨s, rfl⟩ := k
  exact ⟨l ++ s, by simp⟩
theorem Ext.le {m m' : AM} (h : Ext m m') : m.length ≤ m'.length := by
  obtain ⟨l, rfl⟩ := h
  simp
theorem Ext.get {m m' : AM} (h : Ext m m') {i : Nat} {b : AB} (hi : m[i]? = some b) : m'[i]? = some b := by
  obtain ⟨l, rfl⟩ := h
  rw [List.getElem?_append_left (List.getElem?_eq_some_iff.1 hi).1]; exact hi

/-- A function that changes nothing that was there. -/
def Pure (E : Env) (f : FuncId) (args : List AV) (r : CR) : Prop := ∀ m, Spec E f args m fun r' m' => r' = r ∧ m' = m
theorem Pure.of {f : FuncId} {args : List AV} {r : CR} (hn : ∀ n, Nf n r.val) (h : ∀ m, Spec E f args m fun r' m' => r'.le r ∧ Ext m m') : Pure E f args r := fun m =>
  (h m).trim fun r' m' ⟨h1, l, h2⟩ => ⟨m, l, r, h2, rfl, fun i b hb _ => .inl hb, h1, hn _, rfl, rfl⟩
end
end Go.Vm
