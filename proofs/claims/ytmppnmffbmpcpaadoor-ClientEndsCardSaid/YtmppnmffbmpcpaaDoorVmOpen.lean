/- From a reading of an argument to what the machine knows of it: numbers, texts, slices of whatever stands for what. -/
import Derived.Test.YtmppnmffbmpcpaaDoorCxOp
import Derived.Test.YtmppnmffbmpcpaaDoorVmLaid
import Derived.Deep.Slices
import Derived.ChangeArms
set_option linter.unusedVariables false
set_option linter.unusedSimpArgs false
namespace Go.Vm
open Go.RowKit Go.Deep

section
variable {H : Type} {enc : TypeId × Value → H} {P : Program} {W : World} {base : Nat} {spare : Nat → Bool} {held : Bool} {V : Nat → Value}

theorem RepL.app {g : G} : ∀ {xs ys : List AV} {k l : List Value}, RepL g xs k → RepL g ys l → RepL g (xs ++ ys) (k ++ l)
  | [], ys, k, l, h, h2 => by
    simp only [RepL] at h
    subst h
    exact h2
  | x :: xs, ys, k, l, h, h2 => by
    obtain ⟨v, s, rfl, h3, h4⟩ := h.cons_inv
    exact .cons h3 (h4.app h2)

theorem list_of {α : Type} {p : Nat → α → Prop} : ∀ (n : Nat), (∀ i, i < n → ∃ a, p i a) → ∃ l : List α, l.length = n ∧ ∀ i a, l[i]? = some a → p i a
  | 0, _ => ⟨[], rfl, fun i a h => by simp at h⟩
  | n + 1, h => by
    obtain ⟨l, h1, h2⟩ := list_of n fun i hi => h i (by omega)
    obtain ⟨a, ha⟩ := h n (by omega)
    refine ⟨l ++ [a], by simp [h1], fun i b hb => ?_⟩
    by_cases hi : i < l.length
    · rw [List.getElem?_append_left hi] at hb
      exact h2 i b hb
    · rw [List.getElem?_append_right (by omega)] at hb
      have hi2 : i - l.length = 0 := by
        have := (List.getElem?_eq_some_iff.1 hb).1
        simp at this; omega
      rw [hi2] at hb
      simp at hb
      subst hb
      have : i = n := by omega
      subst this; exact ha

/-- Elements by elements. -/
theorem flat_rep {α : Type} {g : G} (eA : α → List AV) (es : Nat) {a : Addr} : ∀ (as : List α) (k : Nat), (∀ i x, as[i]? = some x → ∃ cs, RepL g (eA x) cs ∧ cs.length = es ∧ ∀ r v, cs[r]? = some v → g.K (a.add ((k + i) * es + r)) = some v) →
    ∃ l, RepL g (as.flatMap eA) l ∧ l.length = as.length * es ∧ ∀ j v, l[j]? = some v → g.K (a.add (k * es + j)) = some v
  | [], k, _ => ⟨[], by simp only [List.flatMap_nil]; exact .nil, by simp, fun j v h => by simp at h⟩
  | x :: as, k, h => by
    obtain ⟨cs, h1, h2, h3⟩ := h 0 x rfl
    obtain ⟨l, k1, k2, k3⟩ := flat_rep eA es as (k + 1) fun i y hy => by
      obtain ⟨c, q1, q2, q3⟩ := h (i + 1) y (by simpa using hy)
      exact ⟨c, q1, q2, fun r v hv => by rw [show k + 1 + i = k + (i + 1) by omega]; exact q3 r v hv⟩
    refine ⟨cs ++ l, by rw [List.flatMap_cons]; exact h1.app k1, by rw [List.length_append, h2, k2, List.length_cons, Nat.add_mul]; omega, fun j v hj => ?_⟩
    by_cases hjl : j < cs.length
    · rw [List.getElem?_append_left hjl] at hj
      exact h3 j v hj
    · rw [List.getElem?_append_right (by omega), h2] at hj
      have := k3 _ v hj
      rw [h2] at hjl
      rw [show k * es + j = (k + 1) * es + (j - es) by rw [Nat.add_mul]; omega]
      exact this

/-- A slice whose elements stand for something. -/
theorem open_sl {α : Type} (eA : α → List AV) {Q : α → Prop} {t e : TypeId} {es fuel : Nat} {cs : List Value} {x : DataW H × List MemPlace} (ht : P.underlying t = some (.slice e)) (hc : P.cellsOf e = es) (hl : ∀ a, (eA a).length = es)
    (hel : ∀ n cs y, DataW.trod enc P W base spare held n e cs = some y → ∃ a, RepL (g0 W V) (eA a) cs ∧ Q a) (h : DataW.trod enc P W base spare held fuel t cs = some x) :
    ∃ (as : List α) (v : Value), cs = [v] ∧ Rep (g0 W V) (.sl (as.flatMap eA) es as.length none none) v ∧ as.length ≤ maxLen ∧ ∀ a ∈ as, Q a := by
  rcases open_slice ht h with ⟨rfl, _⟩ | ⟨a, len, cap, m, n, D, Pl, rfl, hb, hle, hm, hmm, _, hx⟩
  · refine ⟨[], _, rfl, ?_, Nat.zero_le _, fun a ha => by cases ha⟩
    simp only [List.flatMap_nil, Rep]
    exact ⟨none, 0, [], rfl, by decide, Nat.le_refl _, by simp, fun k hk => (by cases hk), .nil, fun j v hj => (by simp at hj), fun t ht => by cases ht⟩
  · have hlm : len ≤ m := by rw [hmm]; split <;> omega
    obtain ⟨as, hal, has⟩ := list_of (p := fun i (b : α) => Q b ∧ ∃ c, RepL (g0 W V) (eA b) c ∧ c.length = es ∧ ∀ r v, c[r]? = some v → (g0 W V).K (a.add ((0 + i) * es + r)) = some v) len fun i hi => by
      obtain ⟨c, h1, h2⟩ := hx i (by omega)
      obtain ⟨b, hb1, hb2⟩ := hel _ _ _ h2
      obtain ⟨_, hlen, hcell⟩ := World.cells?_some h1
      rw [hc] at hlen hcell
      refine ⟨b, hb2, c, hb1, hlen, fun r v hv => ?_⟩
      have hr : r < es := by have := (List.getElem?_eq_some_iff.1 hv).1; omega
      have := hcell r hr
      rw [hv, Addr.add_add] at this
      rw [Nat.zero_add]
      exact this
    obtain ⟨l, k1, k2, k3⟩ := flat_rep (g := g0 W V) eA es (a := a) as 0 fun i b hb => (has i b hb).2
    refine ⟨as, _, rfl, ?_, by omega, fun b hb => ?_⟩
    · simp only [Rep]
      refine ⟨some a, cap, l, by rw [hal], hm, by omega, ?_, fun k hk => (by cases hk), k1, fun j v hj => ⟨a, rfl, by have := k3 j v hj; rwa [Nat.zero_mul, Nat.zero_add] at this⟩, fun t ht => by cases ht⟩
      rw [k1.length, k2, hal]
      exact Nat.mul_le_mul_right _ hle
    · obtain ⟨i, hi, rfl⟩ := List.mem_iff_getElem.1 hb
      exact (has i _ (List.getElem?_eq_getElem hi)).1

theorem flat_one {α β : Type} (f : α → β) : ∀ l : List α, (l.flatMap fun b => [f b]) = l.map f
  | [] => rfl
  | x :: l => by rw [List.flatMap_cons, flat_one f l]; rfl
theorem one_int {t : TypeId} {k : IntKind} {n : Nat} {cs : List Value} {y : DataW H × List MemPlace} (ht : P.underlying t = some (.int k)) (h : DataW.trod enc P W base spare held n t cs = some y) : ∃ z : Int, cs = [.int k z] ∧ (Lit.int k z).wf = true := by
  obtain ⟨z, h1, _, h3⟩ := DataW.trod_int ht h
  exact ⟨z, h1, h3⟩
theorem one_str {t : TypeId} {n : Nat} {cs : List Value} {y : DataW H × List MemPlace} (ht : P.underlying t = some .string) (h : DataW.trod enc P W base spare held n t cs = some y) : ∃ b : List UInt8, cs = [.string (bstr b)] ∧ b.length ≤ maxLen := by
  obtain ⟨s, h1, _, h3⟩ := DataW.trod_string ht h
  refine ⟨s.data.toList, h1, ?_⟩
  rw [Array.length_toList]
  exact h3
/-- Bytes. -/
theorem open_bytes {t e : TypeId} {n : Nat} {cs : List Value} {y : DataW H × List MemPlace} (ht : P.underlying t = some (.slice e)) (he : P.underlying e = some (.int .u8)) (hc : P.cellsOf e = 1) (h : DataW.trod enc P W base spare held n t cs = some y) :
    ∃ (b : List UInt8) (v : Value), cs = [v] ∧ Rep (g0 W V) (.sl (bytesA b) 1 b.length none none) v ∧ b.length ≤ maxLen := by
  obtain ⟨b, v, h1, h2, h3, _⟩ := open_sl (V := V) (Q := fun _ => True) (fun b : UInt8 => [byteA b]) ht hc (fun _ => rfl) (fun n cs y hy => by
    obtain ⟨z, rfl, hw⟩ := one_int he hy
    have hz : 0 ≤ z ∧ z ≤ 255 := by
      simp [Lit.wf, IntKind.min, IntKind.max, IntKind.signed, IntKind.bits] at hw
      omega
    refine ⟨UInt8.ofNat z.toNat, .cons ?_ .nil, trivial⟩
    have h2 : ((UInt8.ofNat z.toNat).toNat : Int) = z := by simp [UInt8.toNat_ofNat']; omega
    simp only [byteA, Rep, h2]) h
  refine ⟨b, v, h1, ?_, h3⟩
  have : b.flatMap (fun b => [byteA b]) = bytesA b := flat_one byteA b
  rw [this] at h2
  exact h2
theorem RepL.nonempty {g : G} {x : AV} {v : Value} (h : Rep g x v) : RepL g [x] [v] := .cons h .nil
end
end Go.Vm
