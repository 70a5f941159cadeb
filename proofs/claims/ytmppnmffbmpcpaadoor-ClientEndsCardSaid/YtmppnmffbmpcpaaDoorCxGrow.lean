/- The symbolic layer: slices: what they hold, how they grow, pieces of them. -/
import Derived.Test.YtmppnmffbmpcpaaDoorCxMem
set_option linter.unusedVariables false
set_option linter.unusedSimpArgs false
namespace Go.Vm
open Go.RowKit

theorem Le.take {cs : List AV} {es k : Nat} {cap own : Option Nat} : Le (.sl cs es k cap own) (.sl (cs.take (k * es)) es k cap own) := fun g v hr => by
  simp only [Rep] at hr ⊢
  obtain ⟨A, c, l, e, h1, h2, h3, h4, hl, h5, h6⟩ := hr
  refine ⟨A, c, l.take (k * es), e, h1, h2, ?_, h4, hl.take _, fun j v hj => ?_, h6⟩
  · rw [List.length_take]; omega
  · rw [List.getElem?_take] at hj
    split at hj
    · exact h5 j v hj
    · cases hj

theorem Le.ref0 {i off es : Nat} {cap : Option Nat} : Le (.ref i off es 0 cap) (.sl [] es 0 none none) := fun g v hr => by
  simp only [Rep] at hr ⊢
  obtain ⟨ti, c, e, hT, h1, h2, _⟩ := hr
  exact ⟨_, c, [], e, h1, h2, by simp, fun k hk => (by cases hk), .nil, fun j v hj => (by simp at hj), fun t ht => by cases ht⟩

def notInt : TypeDesc → Bool
  | .int _ => false
  | _ => true

/-- A table of types says this of slices of e. -/
structure SlT (E : Env) (sT e : TypeId) (es bytes : Nat) (z : Value) : Prop where
  u : E.P.underlying sT = some (.slice e)
  s : tsize E e = some es
  b : tbytes E e = some bytes
  tz : tzero E e = some z
  zs : z.cells.size = es
  pos : 0 < es

/-- A slice that this call has made, or nil: what it holds. -/
def Acc (m0 m : AM) (e : TypeId) (es : Nat) (cells : List AV) (x : AV) : Prop :=
  Ext m0 m ∧ ((x = .v (.slice none 0 0) ∧ cells = []) ∨
    (∃ n cap t cs, x = .sl cs es n cap (some t) ∧ cs.take (n * es) = cells ∧ n * es ≤ cs.length ∧ m[t]? = some .tok ∧ m0.length ≤ t) ∨
    (∃ n cs, x = .sl cs es n (some n) none ∧ cs.take (n * es) = cells ∧ n * es ≤ cs.length) ∨
    ∃ i zs, x = .ref i 0 es 0 none ∧ cells = [] ∧ m[i]? = some (.wr zs e true) ∧ m0.length ≤ i)

/-- The blocks that may be written, but for those that grow, are as they were. -/
def Kept (m m' : AM) : Prop := ∀ (i : Nat) cs e, m[i]? = some (.wr cs e false) → m'[i]? = some (.wr cs e false)
theorem Kept.refl (m : AM) : Kept m m := fun _ _ _ h => h
theorem Kept.snoc {m m' : AM} (h : Kept m m') (b : AB) : Kept m (m' ++ [b]) := fun i cs e hi => by
  have := h i cs e hi
  rw [List.getElem?_append_left (List.getElem?_eq_some_iff.1 this).1]; exact this
theorem Kept.kill {m : AM} {t : Nat} {b : AB} (ht : m[t]? = some b) (hb : ∀ cs e, b ≠ .wr cs e false) : Kept m (m.set t .dead) := fun i cs e hi => by
  rw [List.getElem?_set]
  split
  · rename_i he
    subst he
    rw [ht] at hi
    exact absurd (Option.some.inj hi) (hb cs e)
  · exact hi
theorem Kept.trans {a b c : AM} (h : Kept a b) (k : Kept b c) : Kept a c := fun i cs e hi => k i cs e (h i cs e hi)

theorem Acc.nil {m0 m : AM} {e : TypeId} {es : Nat} (h : Ext m0 m) : Acc m0 m e es [] (.v (.slice none 0 0)) := ⟨h, .inl ⟨rfl, rfl⟩⟩
theorem Acc.content {m0 m : AM} {e : TypeId} {es : Nat} {cells : List AV} {x : AV} (h : Acc m0 m e es cells x) (m' : AM) (hm : ∀ (i : Nat) zs, m[i]? = some (.wr zs e true) → ∃ b, m'[i]? = some (.wr b e true) ∧ True) : content m' es x = some cells := by
  obtain ⟨_, ⟨rfl, rfl⟩ | ⟨n, cap, t, cs, rfl, rfl, h1, _⟩ | ⟨n, cs, rfl, rfl, h1⟩ | ⟨i, zs, rfl, rfl, h1, _⟩⟩ := h
  · rfl
  · simp [Vm.content, h1]
  · simp [Vm.content, h1]
  · obtain ⟨b, hb, h3⟩ := hm i zs h1
    simp [Vm.content, cellsAt, hb]
theorem Acc.mod {m0 m : AM} {e : TypeId} {es : Nat} {cells : List AV} {x : AV} (h : Acc m0 m e es cells x) (h0 : 0 < es) : ∃ n, cells.length = n * es ∧ Le x (.sl cells es n none none) := by
  obtain ⟨_, ⟨rfl, rfl⟩ | ⟨n, cap, t, cs, rfl, rfl, h1, _⟩ | ⟨n, cs, rfl, rfl, h1⟩ | ⟨i, zs, rfl, rfl, h1, _⟩⟩ := h
  · exact ⟨0, by simp, Le.nil⟩
  · exact ⟨n, by rw [List.length_take]; omega, fun g v hr => Le.disown g v (Le.take g v hr)⟩
  · exact ⟨n, by rw [List.length_take]; omega, fun g v hr => Le.disown g v (Le.take g v hr)⟩
  · exact ⟨0, by simp, Le.ref0⟩
theorem Acc.le {m0 m : AM} {e : TypeId} {es n : Nat} {cells : List AV} {x : AV} (h : Acc m0 m e es cells x) (h0 : 0 < es) (hn : cells.length = n * es) : Le x (.sl cells es n none none) := by
  obtain ⟨k, hk, hl⟩ := h.mod h0
  have : k = n := Nat.eq_of_mul_eq_mul_right h0 (by omega)
  rw [← this]; exact hl
theorem Acc.snoc {m0 m : AM} {e : TypeId} {es : Nat} {cells : List AV} {x : AV} (h : Acc m0 m e es cells x) (b : AB) : Acc m0 (m ++ [b]) e es cells x := by
  obtain ⟨he, ⟨rfl, rfl⟩ | ⟨n, cap, t, cs, rfl, h2, h1, h3, h4⟩ | ⟨n, cs, rfl, h2, h1⟩ | ⟨i, zs, rfl, h2, h1, h3⟩⟩ := h
  · exact ⟨he.snoc b, .inl ⟨rfl, rfl⟩⟩
  · exact ⟨he.snoc b, .inr (.inl ⟨n, cap, t, cs, rfl, h2, h1, by rw [List.getElem?_append_left (List.getElem?_eq_some_iff.1 h3).1]; exact h3, h4⟩)⟩
  · exact ⟨he.snoc b, .inr (.inr (.inl ⟨n, cs, rfl, h2, h1⟩))⟩
  · exact ⟨he.snoc b, .inr (.inr (.inr ⟨i, zs, rfl, h2, by rw [List.getElem?_append_left (List.getElem?_eq_some_iff.1 h1).1]; exact h1, h3⟩))⟩

section
variable {E : Env} {call : ACall} {fn : FuncId} {ρ : Operand → AV} {m : AM} {d : Option Tmp} {ty : TypeId} {pos : String} {aft : Array Edge} {gd : Option (Nat × Bool)}

theorem flat_none1 {c : Call} (h : ∃ x ∈ c.args, (ρ x).flat = none) : flatOp E ρ m ⟨d, .call c, ty, pos, aft, gd⟩ = none := by
  obtain ⟨x, hx, hf⟩ := h
  unfold flatOp
  rw [if_neg]
  intro hall
  have := Array.all_eq_true'.1 hall x (by simp [Op.operands, Call.operands, hx])
  rw [hf] at this
  cases this

theorem source_nonflat {es : Nat} {x : AV} {ys : List AV} (h : source m es x = some ys) (hy : ys ≠ []) : (∃ s, x = .v (.string s)) ∨ x.flat = none := by
  unfold source at h
  split at h
  · exact .inl ⟨_, rfl⟩
  · right
    cases x with
    | v y =>
      unfold content at h
      split at h <;> first | (simp only [Option.some.injEq] at h; exact absurd h.symm hy) | (rename_i hh; cases hh) | cases h
    | agg _ => simp [content] at h
    | tup _ => simp [content] at h
    | fn _ _ _ => simp [content] at h
    | _ => rfl

/-- 'append' to a slice of this call's own. -/
theorem acc_append {m0 : AM} {sT xT e : TypeId} {es bytes k n : Nat} {z : Value} {a b : Operand} {cells ys : List AV} {x : AV} {dx : TypeDesc} (hT : SlT E sT e es bytes z) (hxT : E.P.underlying xT = some dx) (hni : notInt dx = true) (hlin : E.linear fn = false)
    (hx : ρ a = x) (h : Acc m0 m e es cells x) (hs : source m es (ρ b) = some ys) (hk : ys.length = k * es) (hone : ys.all AV.one = true) (hn : cells.length = n * es) (hb1 : (n + k) * bytes ≤ maxBytes) (hb2 : n + k ≤ maxLen)
    (hfl : flatOp E ρ m ⟨d, .call ⟨.builtin .append, #[a, b], #[sT, xT]⟩, ty, pos, aft, gd⟩ = none) :
    ∃ x' m', aop E call fn ρ m ⟨d, .call ⟨.builtin .append, #[a, b], #[sT, xT]⟩, ty, pos, aft, gd⟩ = some (.ret x' m') ∧ Acc m0 m' e es (cells ++ ys) x' ∧ Kept m m' := by
  have hbu : abuiltin E (E.linear fn) .append #[sT, xT] [ρ a, ρ b] m = aappend E false m sT x (ρ b) := by
    simp only [abuiltin, hlin, hx]
    simp only [List.getElem?_toArray, List.getElem?_cons_zero, List.getElem?_cons_succ, Option.bind_some, hxT]
    cases dx <;> first | rfl | cases hni
  have hes : es ≠ 0 := Nat.pos_iff_ne_zero.1 hT.pos
  have hkd : ys.length / es = k := by rw [hk, Nat.mul_div_cancel _ hT.pos]
  have key : ∃ x' m', aappend E false m sT x (ρ b) = some (.ret x' m') ∧ Acc m0 m' e es (cells ++ ys) x' ∧ Kept m m' := by
    have hpre : ¬ (es = 0 ∨ z.cells.size ≠ es) := by rw [hT.zs]; simp [hes]
    have hpre2 : ¬ (ys.length ≠ ys.length / es * es ∨ ys.all AV.one = false) := by rw [hkd, hk, hone]; simp
    obtain ⟨he, hc⟩ := h
    by_cases hk0 : k = 0
    · subst hk0
      have hy : ys = [] := List.length_eq_zero_iff.1 (by rw [hk]; simp)
      subst hy
      rw [List.append_nil]
      have hp0 : ¬ (([] : List AV).length ≠ ([] : List AV).length / es * es ∨ ([] : List AV).all AV.one = false) := by simp
      rcases hc with ⟨rfl, rfl⟩ | ⟨q, cap, t, cs, rfl, h2, h1, h3, h4⟩ | ⟨q, cs, rfl, h2, h1⟩ | ⟨i, zs, rfl, rfl, h1, h3⟩
      · exact ⟨_, m, by simp only [aappend, hT.u, hT.s, hT.b, hT.tz, if_neg hpre, hs, if_neg hp0]; simp, ⟨he, .inl ⟨rfl, rfl⟩⟩, Kept.refl _⟩
      · exact ⟨_, m, by simp only [aappend, hT.u, hT.s, hT.b, hT.tz, if_neg hpre, hs, if_neg hp0]; simp, ⟨he, .inr (.inl ⟨q, cap, t, cs, rfl, h2, h1, h3, h4⟩)⟩, Kept.refl _⟩
      · exact ⟨_, m, by simp only [aappend, hT.u, hT.s, hT.b, hT.tz, if_neg hpre, hs, if_neg hp0]; simp, ⟨he, .inr (.inr (.inl ⟨q, cs, rfl, h2, h1⟩))⟩, Kept.refl _⟩
      · exact ⟨_, m, by simp only [aappend, hT.u, hT.s, hT.b, hT.tz, if_neg hpre, hs, if_neg hp0]; simp, ⟨he, .inr (.inr (.inr ⟨i, zs, rfl, rfl, h1, h3⟩))⟩, Kept.refl _⟩
    · have hk1 : ¬ ys.length / es = 0 := by rw [hkd]; exact hk0
      have hnew : ∀ (M : AM) (L : List AV), Ext m0 M → L.length = (n + k) * es → Acc m0 (M ++ [.tok]) e es L (.sl L es (n + k) none (some M.length)) := fun M L hM hL =>
        ⟨hM.snoc _, .inr (.inl ⟨n + k, none, M.length, L, rfl, by rw [List.take_of_length_le (by omega)], by omega, by simp, hM.le⟩)⟩
      have hlen : (cells ++ ys).length = (n + k) * es := by rw [List.length_append, hn, hk, Nat.add_mul]
      rcases hc with ⟨rfl, rfl⟩ | ⟨q, cap, t, cs, rfl, h2, h1, h3, h4⟩ | ⟨q, cs, rfl, h2, h1⟩ | ⟨i, zs, rfl, rfl, h1, h3⟩
      · have hn0 : n = 0 := by
          have h1 : n * es = 0 := hn.symm
          rcases Nat.mul_eq_zero.1 h1 with h | h
          · exact h
          · exact absurd h hes
        subst hn0
        refine ⟨.sl ys es k none (some m.length), m ++ [.tok], ?_, ?_, (Kept.refl m).snoc _⟩
        · simp only [aappend, hT.u, hT.s, hT.b, hT.tz, if_neg hpre, hs, if_neg hpre2, if_neg hk1]
          rw [if_pos (by rw [hkd]; simp only [Nat.zero_add] at hb1 hb2; exact ⟨hb1, hb2⟩), hkd]
          rfl
        · have := hnew m ys he (by simpa using hk)
          simpa using this
      · have hq : q = n := Nat.eq_of_mul_eq_mul_right hT.pos (by rw [← hn, ← h2, List.length_take]; omega)
        subst hq
        refine ⟨.sl (cells ++ ys) es (q + k) none (some (m.set t .dead).length), m.set t .dead ++ [.tok], ?_, hnew (m.set t .dead) (cells ++ ys) (he.set h4 _) hlen, (Kept.kill h3 (fun _ _ h => by cases h)).snoc _⟩
        simp only [aappend, hT.u, hT.s, hT.b, hT.tz, if_neg hpre, hs, if_neg hpre2, if_neg hk1]
        rw [if_neg (by rw [hkd]; simp only [not_or]; refine ⟨by simp, by omega, by omega, by omega⟩)]
        simp only [h3, hkd, h2]
        rfl
      · have hq : q = n := Nat.eq_of_mul_eq_mul_right hT.pos (by rw [← hn, ← h2, List.length_take]; omega)
        subst hq
        refine ⟨.sl (cells ++ ys) es (q + k) none (some m.length), m ++ [.tok], ?_, hnew m (cells ++ ys) he hlen, (Kept.refl m).snoc _⟩
        simp only [aappend, hT.u, hT.s, hT.b, hT.tz, if_neg hpre, hs, if_neg hpre2, if_neg hk1]
        rw [if_neg (by rw [hkd]; simp only [not_or]; refine ⟨by simp, by omega, by omega, by omega⟩)]
        simp only [if_true, hkd, h2]
        rfl
      · have hn0 : n = 0 := by
          have h1 : n * es = 0 := hn.symm
          rcases Nat.mul_eq_zero.1 h1 with h | h
          · exact h
          · exact absurd h hes
        subst hn0
        refine ⟨.sl ys es k none (some (m.set i .dead).length), m.set i .dead ++ [.tok], ?_, by
          have := hnew (m.set i .dead) ys (he.set h3 _) (by simpa using hk)
          simpa using this, (Kept.kill h1 (fun _ _ h => by cases h)).snoc _⟩
        simp only [aappend, hT.u, hT.s, hT.b, hT.tz, if_neg hpre, hs, if_neg hpre2, if_neg hk1]
        simp only [h1]
        rw [if_neg (by rw [hkd]; simp only [not_or]; refine ⟨by simp, by omega, by omega, by omega⟩)]
        simp only [and_self, if_true, hkd]
        simp [grow]
  obtain ⟨x', m', h1, h2⟩ := key
  exact ⟨x', m', by simp only [aop, hfl]; rw [show [a, b].map ρ = [ρ a, ρ b] from rfl, hbu]; exact h1, h2⟩

theorem pr_choose {P : Program} {a : Question} : pureRun P (choose a) = none := rfl
theorem a_bytes' {x : Operand} {s t e : TypeId} {ds : TypeDesc} {l : List UInt8} (hs : E.P.underlying s = some ds) (ht : E.P.underlying t = some (.slice e)) (he : isByte E e = true) (hx : ρ x = .v (.string (bstr l))) (hl : l.length ≤ maxLen) :
    aop E call fn ρ m ⟨d, .convert s t x, ty, pos, aft, gd⟩ = some (.ret (.sl (bytesA l) 1 l.length none (some m.length)) (m ++ [.tok])) := by
  refine a_bytes hs ht he hx hl ?_
  have hu := isByte_eq he
  have : pureRun E.P (execOp (fun x => ((ρ x).flat).getD undef) ⟨d, .convert s t x, ty, pos, aft, gd⟩) = none := by
    simp [execOp, hx, AV.flat, convert, pr_bind, pr_underlying hs, pr_underlying ht, pr_underlying hu, pr_map, Conv.stringToBytes, pr_choose]
  unfold flatOp
  rw [this]
  split <;> rfl

/-- A slice of bytes as a text. -/
theorem a_text {x : Operand} {s t e : TypeId} {l : List UInt8} (hs : E.P.underlying s = some (.slice e)) (ht : E.P.underlying t = some .string) (he : isByte E e = true) (hx : content m 1 (ρ x) = some (bytesA l)) :
    aop E call fn ρ m ⟨d, .convert s t x, ty, pos, aft, gd⟩ = some (.ret (.v (.string (bstr l))) m) := by
  have hu := isByte_eq he
  cases hfl : (ρ x).flat with
  | none =>
    have hf : flatOp E ρ m ⟨d, .convert s t x, ty, pos, aft, gd⟩ = none := by
      unfold flatOp
      rw [if_neg]
      simp [Op.operands, hfl]
    simp only [aop, hf, aconvert, hs, ht, he, if_true, hx, Option.bind_some, bytesOf_bytesA, Option.map_some]
  | some u =>
    have hnil : ∃ c, ρ x = .v (.slice none 0 c) ∧ l = [] := by
      generalize ρ x = y at hx hfl
      cases y with
      | v y =>
        unfold content at hx
        split at hx
        · rename_i c hh
          refine ⟨_, hh, ?_⟩
          have := Option.some.inj hx
          cases l with
          | nil => rfl
          | cons => simp [bytesA] at this
        · rename_i hh; cases hh
        · rename_i hh; cases hh
        · cases hx
      | agg _ => simp [content] at hx
      | tup _ => simp [content] at hx
      | fn _ _ _ => simp [content] at hx
      | _ => simp [AV.flat] at hfl
    obtain ⟨c, hc, rfl⟩ := hnil
    have hf : flatOp E ρ m ⟨d, .convert s t x, ty, pos, aft, gd⟩ = some (.ret (.v (.string (bstr []))) m) := by
      refine flat1 (by simp [Op.operands, hc, AV.flat]) ?_
      simp [execOp, hc, AV.flat, convert, pr_bind, pr_map, pr_pure, pr_underlying hs, pr_underlying ht, pr_underlying hu, Conv.bytesToString]
      rfl
    simp only [aop, hf]
end
end Go.Vm
