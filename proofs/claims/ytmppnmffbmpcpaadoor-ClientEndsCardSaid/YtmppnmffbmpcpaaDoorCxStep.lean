/- The symbolic layer: steps over a memory of the form 'what was there, and the blocks of this call behind'. -/
import Derived.Test.YtmppnmffbmpcpaaDoorCxDraw2
set_option linter.unusedVariables false
set_option linter.unusedSimpArgs false
namespace Go.Vm
open Go.RowKit

def mx (m l : AM) : AM := m ++ l
theorem mx_nil (m : AM) : m = mx m [] := by simp [mx]
theorem mx_get {m l : AM} {L k : Nat} {b : AB} (hL : m.length = L) (h : l[k]? = some b) : (mx m l)[L + k]? = some b := by
  unfold mx
  rw [List.getElem?_append_right (by omega), show L + k - m.length = k by omega]; exact h
theorem mx_base {m l : AM} {i : Nat} {b : AB} (h : m[i]? = some b) : (mx m l)[i]? = some b := by
  unfold mx
  rw [List.getElem?_append_left (List.getElem?_eq_some_iff.1 h).1]; exact h
theorem mx_set {m l : AM} {L k : Nat} (hL : m.length = L) (b : AB) : (mx m l).set (L + k) b = mx m (l.set k b) := by
  unfold mx
  rw [List.set_append_right _ _ (by omega), show L + k - m.length = k by omega]
theorem mx_set_base {m l : AM} {i : Nat} {b c : AB} (h : m[i]? = some c) : (mx m l).set i b = mx (m.set i b) l := by
  unfold mx
  rw [List.set_append_left _ _ (List.getElem?_eq_some_iff.1 h).1]
theorem mx_snoc {m l : AM} {b : AB} : mx m l ++ [b] = mx m (l ++ [b]) := by simp [mx]
theorem mx_len {m l : AM} {L : Nat} (hL : m.length = L) : (mx m l).length = L + l.length := by simp [mx, hL]
theorem Ext.mx (m l : AM) : Ext m (mx m l) := ⟨l, rfl⟩

section
variable {E : Env} {call : ACall} {fn : FuncId} {ρ : Operand → AV} {m l : AM} {L : Nat} {d : Option Tmp} {ty : TypeId} {pos : String} {aft : Array Edge} {gd : Option (Nat × Bool)}

theorem x_box {t : TypeId} {x : Operand} {y : AV} {cs : List AV} (hL : m.length = L) (hx : ρ x = y) (hc : y.cells = cs) : aop E call fn ρ (mx m l) ⟨d, .box t x, ty, pos, aft, gd⟩ = some (.ret (.ptr (L + l.length) 0) (mx m (l ++ [.wr cs t false]))) := by
  rw [a_box (cs := cs) (by rw [hx]; exact hc), mx_len hL, mx_snoc]
theorem x_alloc {t : TypeId} {z : Value} {cs : List AV} (hL : m.length = L) (hz : tzero E t = some z) (hc : z.cells.toList.map AV.v = cs) : aop E call fn ρ (mx m l) ⟨d, .alloc t, ty, pos, aft, gd⟩ = some (.ret (.ptr (L + l.length) 0) (mx m (l ++ [.wr cs t false]))) := by
  rw [a_alloc hz hc, mx_len hL, mx_snoc]
theorem x_bytes {x : Operand} {s t e : TypeId} {ds : TypeDesc} {b : List UInt8} (hL : m.length = L) (hs : E.P.underlying s = some ds) (ht : E.P.underlying t = some (.slice e)) (he : isByte E e = true) (hx : ρ x = .v (.string (bstr b))) (hl : b.length ≤ maxLen) :
    aop E call fn ρ (mx m l) ⟨d, .convert s t x, ty, pos, aft, gd⟩ = some (.ret (.sl (bytesA b) 1 b.length none (some (L + l.length))) (mx m (l ++ [.tok]))) := by
  rw [a_bytes' hs ht he hx hl, mx_len hL, mx_snoc]
/-- A slice literal of bytes. -/
theorem x_litb {t e : TypeId} {n : Nat} {ps : Array (Nat × Operand)} {cells : List AV} {bytes : Nat} {z : Value} (hL : m.length = L) (hT : SlT E t e 1 bytes z) (he : isByte E e = true) (hlit : E.lit fn = false) (hn : Nat.ble n 16777216 = true)
    (hf : afill (fun i => some (i * 1, 1)) (zeros z n) (ps.toList.map fun (i, x) => (i, ρ x)) = some cells) :
    aop E call fn ρ (mx m l) ⟨d, .buildSlice t n ps, ty, pos, aft, gd⟩ = some (.ret (.sl cells 1 n (some n) (some (L + l.length))) (mx m (l ++ [.tok]))) := by
  refine a_buildSlice ?_
  have hz := hT.zs
  have hn' := Nat.le_of_ble_eq_true hn
  simp only [abuildSlice, hT.u, hT.s, hT.tz, hlit, he, hf, Option.map_some, mx_len hL, mx_snoc]
  rw [if_neg (by rw [hz]; simp; omega)]
  rfl
/-- A slice literal of others. -/
theorem x_lit {t e : TypeId} {n s : Nat} {ps : Array (Nat × Operand)} {cells : List AV} {bytes : Nat} {z : Value} {m : AM} (hT : SlT E t e s bytes z) (he : isByte E e = false) (hlit : E.lit fn = false) (hn : Nat.ble (n * s) 16777216 = true)
    (hf : afill (fun i => some (i * s, s)) (zeros z n) (ps.toList.map fun (i, x) => (i, ρ x)) = some cells) :
    aop E call fn ρ m ⟨d, .buildSlice t n ps, ty, pos, aft, gd⟩ = some (.ret (.sl cells s n (some n) none) m) := by
  refine a_buildSlice ?_
  have hz := hT.zs
  have hn' := Nat.le_of_ble_eq_true hn
  have h0 := hT.pos
  simp only [abuildSlice, hT.u, hT.s, hT.tz, hlit, he, hf, Option.map_some]
  rw [if_neg (by rw [hz]; omega)]
  rfl

/-- What stands in one of this call's blocks, or in one that was there. -/
theorem x_load1 {a : Operand} {t : TypeId} {s k off : Nat} {cells : List AV} {e : TypeId} {p : Bool} {y : AV} (hL : m.length = L) (ht : tagg E t = some false) (hs : tsize E t = some s) (ha : ρ a = .ptr (L + k) off) (hk : l[k]? = some (.wr cells e p)) (hc : cells[off]? = some y) :
    aop E call fn ρ (mx m l) ⟨d, .load t a, ty, pos, aft, gd⟩ = some (.ret y (mx m l)) := a_load (by rw [ha]; exact ald_one ht hs (mx_get hL hk) hc)
theorem x_load2 {a : Operand} {t : TypeId} {s k off : Nat} {cells xs : List AV} {e : TypeId} {p : Bool} (hL : m.length = L) (ht : tagg E t = some true) (hs : tsize E t = some s) (ha : ρ a = .ptr (L + k) off) (hk : l[k]? = some (.wr cells e p)) (hc : (cells.drop off).take s = xs) (hl : xs.length = s) :
    aop E call fn ρ (mx m l) ⟨d, .load t a, ty, pos, aft, gd⟩ = some (.ret (.agg xs) (mx m l)) := a_load (by rw [ha]; exact ald_agg ht hs (mx_get hL hk) hc hl)
theorem x_load1b {a : Operand} {t : TypeId} {s i off : Nat} {cells : List AV} {e : TypeId} {p : Bool} {y : AV} (hk : m[i]? = some (.wr cells e p)) (ht : tagg E t = some false) (hs : tsize E t = some s) (ha : ρ a = .ptr i off) (hc : cells[off]? = some y) :
    aop E call fn ρ (mx m l) ⟨d, .load t a, ty, pos, aft, gd⟩ = some (.ret y (mx m l)) := a_load (by rw [ha]; exact ald_one ht hs (mx_base hk) hc)
theorem x_load_err {a : Operand} {t : TypeId} {s i : Nat} {m : AM} (ht : tagg E t = some false) (hs : tsize E t = some s) (ha : ρ a = .v (.pointer (some ⟨i, 0, none⟩))) (hi : E.sent i = true) :
    aop E call fn ρ m ⟨d, .load t a, ty, pos, aft, gd⟩ = some (.ret (.u i) m) := a_load (by rw [ha]; exact ald_err ht hs hi)
theorem x_load_ep1 {a : Operand} {t : TypeId} {s : Nat} {cells : List AV} {y : AV} {m : AM} (ht : tagg E t = some false) (hs : tsize E t = some s) (ha : ρ a = .ep cells) (hc : cells.head? = some y) :
    aop E call fn ρ m ⟨d, .load t a, ty, pos, aft, gd⟩ = some (.ret y m) := a_load (by rw [ha]; exact ald_ep_one ht hs hc)
theorem x_load_ep2 {a : Operand} {t : TypeId} {s : Nat} {cells xs : List AV} {m : AM} (ht : tagg E t = some true) (hs : tsize E t = some s) (ha : ρ a = .ep cells) (hc : cells.take s = xs) (hl : xs.length = s) :
    aop E call fn ρ m ⟨d, .load t a, ty, pos, aft, gd⟩ = some (.ret (.agg xs) m) := a_load (by rw [ha]; exact ald_ep_agg ht hs hc hl)
theorem x_store {a x : Operand} {t : TypeId} {s k off : Nat} {cells xs out : List AV} {e : TypeId} {p : Bool} {y : AV} (hL : m.length = L) (hs : tsize E t = some s) (ha : ρ a = .ptr (L + k) off) (hk : l[k]? = some (.wr cells e p)) (hy : ρ x = y) (hx : y.cells = xs) (hl : xs.length = s) (hle : Nat.ble (off + s) cells.length = true) (hone : xs.all AV.one = true) (ho : putAt cells off xs = out) :
    aop E call fn ρ (mx m l) ⟨d, .store t a x, ty, pos, aft, gd⟩ = some (.ret (.v undef) (mx m (l.set k (.wr out e p)))) := by
  refine a_store ?_
  rw [ha, hy, ast_ptr hs (mx_get hL hk) hx hl (Nat.le_of_ble_eq_true hle) hone ho, mx_set hL]
theorem x_storeb {a x : Operand} {t : TypeId} {s i off : Nat} {cells xs out : List AV} {e : TypeId} {p : Bool} {y : AV} (hk : m[i]? = some (.wr cells e p)) (hs : tsize E t = some s) (ha : ρ a = .ptr i off) (hy : ρ x = y) (hx : y.cells = xs) (hl : xs.length = s) (hle : Nat.ble (off + s) cells.length = true) (hone : xs.all AV.one = true) (ho : putAt cells off xs = out) :
    aop E call fn ρ (mx m l) ⟨d, .store t a x, ty, pos, aft, gd⟩ = some (.ret (.v undef) (mx (m.set i (.wr out e p)) l)) := by
  refine a_store ?_
  rw [ha, hy, ast_ptr hs (mx_base hk) hx hl (Nat.le_of_ble_eq_true hle) hone ho, mx_set_base hk]
theorem x_field {t : TypeId} {x : Operand} {f i off s : Nat} {fs} {fd} (ht : E.P.underlying t = some (.struct fs)) (hs : tsize E fd.type = some s) (hx : ρ x = .ptr i off) (hf : fs[f]? = some fd) (h0 : s ≠ 0) {m : AM} :
    aop E call fn ρ m ⟨d, .fieldAddr t x f, ty, pos, aft, gd⟩ = some (.ret (.ptr i (off + fd.offset)) m) := a_fieldAddr (by rw [hx]; exact afa_ptr ht hf hs h0)
theorem x_len_str {x : Operand} {t : TypeId} {b : List UInt8} (ht : E.P.underlying t = some .string) (hx : ρ x = .v (.string (bstr b))) {m : AM} :
    aop E call fn ρ m ⟨d, .call ⟨.builtin .len, #[x], #[t]⟩, ty, pos, aft, gd⟩ = some (.ret (.v (.int .i64 b.length)) m) := by
  have hz : (bstr b).size = b.length := by simp [bstr, ByteArray.size]
  have hb : flatOp E ρ m ⟨d, .call ⟨.builtin .len, #[x], #[t]⟩, ty, pos, aft, gd⟩ = some (.ret (.v (.int .i64 b.length)) m) := by
    refine flat1 (by simp [Op.operands, Call.operands, hx, AV.flat]) ?_
    simp [execOp, resolve, invoke, builtin, Builtin.len_, hx, AV.flat, pr_bind, pr_pure, pr_map, pr_underlying ht, hz, goInt]
  simp only [aop, hb]
end

section
variable {E : Env} {N : Nat} {ds : List Deferred} {ops : Array Oper} {rest : List Oper} {φ : Fr} {m : AM} {K : Fr → AM → Prop} {R : CX → Fr → AM → Prop} {dst : Option Tmp} {ty : TypeId} {pos : String} {aft : Array Edge}
/-- A call that changes nothing that was there. -/
theorem ops_pure {j : FuncId} {args : Array Operand} {tys : Array TypeId} {x : AV} (hs : Pure E j (args.toList.map (ev N φ)) (.ret x)) (h : OpsJ E N ds ops rest (fput φ dst x) m K R) :
    OpsJ E N ds ops (⟨dst, .call ⟨.value (.func j), args, tys⟩, ty, pos, aft, none⟩ :: rest) φ m K R :=
  ops_call (hs m) (fun y m' hy => by obtain ⟨h1, rfl⟩ := hy; obtain rfl := CR.ret.inj h1; exact h) fun y m' hy => by obtain ⟨h1, _⟩ := hy; cases h1
end
theorem Pure.mk {E : Env} {f : FuncId} {args : List AV} {r : CR} (hn : ∀ n, Nf n r.val) (h : ∀ m, Spec E f args (mx m []) fun r' m' => r'.le r ∧ Ext m m') : Pure E f args r :=
  Pure.of hn fun m => by have := h m; rw [← mx_nil] at this; exact this
theorem Acc.mxs {m0 m l : AM} {e : TypeId} {es : Nat} {cells : List AV} {x : AV} (h : Acc m0 (mx m l) e es cells x) (b : AB) : Acc m0 (mx m (l ++ [b])) e es cells x := by
  rw [← mx_snoc]; exact h.snoc b
theorem Kept.mx {m l l' : AM} {k : Nat} {cs : List AV} {e : TypeId} (h : Kept (mx m l) (mx m l')) (hk : l[k]? = some (.wr cs e false)) : l'[k]? = some (.wr cs e false) := by
  have h1 := h (m.length + k) cs e (mx_get rfl hk)
  unfold Go.Vm.mx at h1
  rw [List.getElem?_append_right (by omega), show m.length + k - m.length = k by omega] at h1
  exact h1
/-- What 64 bits hold. -/
theorem w64 {n : Int} (h : -9223372036854775808 ≤ n ∧ n ≤ 9223372036854775807) : IntKind.i64.wrap n = n := IntWalk.i64_in n h
end Go.Vm
