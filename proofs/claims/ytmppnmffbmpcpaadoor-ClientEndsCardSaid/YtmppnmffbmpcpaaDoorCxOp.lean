/- The symbolic layer: what each operation comes to at operands of known shape. Nothing is asked of any program but what its table of types says. -/
import Derived.Test.YtmppnmffbmpcpaaDoorCx
import Derived.IntWalk
import Derived.Lib.Strings
set_option linter.unusedVariables false
set_option linter.unusedSimpArgs false
namespace Go.Vm
open Go.RowKit

/-- A text, bytes. -/
abbrev bstr (l : List UInt8) : ByteArray := ⟨l.toArray⟩
def byteA (b : UInt8) : AV := .v (.int .u8 b.toNat)
def bytesA (l : List UInt8) : List AV := l.map byteA
theorem bytesA_length (l : List UInt8) : (bytesA l).length = l.length := by simp [bytesA]
theorem byteVals_bstr (l : List UInt8) : byteVals (bstr l) = bytesA l := by simp [byteVals, bytesA, byteA]
theorem bytesOf_bytesA : ∀ l : List UInt8, bytesOf (bytesA l) = some l
  | [] => rfl
  | b :: l => by
    have ih := bytesOf_bytesA l
    simp only [bytesA, List.map_cons] at ih ⊢
    rw [show byteA b = AV.v (.int .u8 b.toNat) from rfl]
    simp only [bytesOf, ih]
    simp
theorem bytesA_one (l : List UInt8) : (bytesA l).all AV.one = true := by simp [bytesA, byteA, AV.one]
theorem bytesA_append (a b : List UInt8) : bytesA (a ++ b) = bytesA a ++ bytesA b := by simp [bytesA]
theorem bytesA_take (l : List UInt8) (n : Nat) : (bytesA l).take n = bytesA (l.take n) := by simp [bytesA]
theorem bytesA_drop (l : List UInt8) (n : Nat) : (bytesA l).drop n = bytesA (l.drop n) := by simp [bytesA]

section
variable {E : Env} {call : ACall} {fn : FuncId} {ρ : Operand → AV} {m : AM} {d : Option Tmp} {ty : TypeId} {pos : String} {aft : Array Edge} {gd : Option (Nat × Bool)}

theorem a_move {x : Operand} {y : AV} (h : ρ x = y) : aop E call fn ρ m ⟨d, .move x, ty, pos, aft, gd⟩ = some (.ret y m) := by rw [← h]; rfl
theorem a_assign {x : Operand} {y : AV} (h : ρ x = y) : aop E call fn ρ m ⟨d, .assign x, ty, pos, aft, gd⟩ = some (.ret y m) := by rw [← h]; rfl
theorem a_pick {c a b : Operand} {t : Bool} {y : AV} (hc : ρ c = .v (.bool t)) (h : (if t then ρ a else ρ b) = y) : aop E call fn ρ m ⟨d, .pick c a b, ty, pos, aft, gd⟩ = some (.ret y m) := by
  simp only [aop, hc, h]
theorem a_pick_t {c a b : Operand} {t : Bool} {y : AV} (hc : ρ c = .v (.bool t)) (ht : t = true) (h : ρ a = y) : aop E call fn ρ m ⟨d, .pick c a b, ty, pos, aft, gd⟩ = some (.ret y m) := a_pick hc (by rw [ht]; exact h)
theorem a_pick_f {c a b : Operand} {t : Bool} {y : AV} (hc : ρ c = .v (.bool t)) (ht : t = false) (h : ρ b = y) : aop E call fn ρ m ⟨d, .pick c a b, ty, pos, aft, gd⟩ = some (.ret y m) := a_pick hc (by rw [ht]; exact h)
/-- Both ways truth values. -/
theorem a_pick_b {c a b : Operand} {t u v : Bool} (hc : ρ c = .v (.bool t)) (ha : ρ a = .v (.bool u)) (hb : ρ b = .v (.bool v)) : aop E call fn ρ m ⟨d, .pick c a b, ty, pos, aft, gd⟩ = some (.ret (.v (.bool (if t then u else v))) m) := a_pick hc (by rw [ha, hb]; cases t <;> rfl)

theorem pr_pure {α : Type} {P : Program} {a : α} : pureRun P (pure a : Sem α) = some (.inl a) := rfl
theorem pr_bind {α β : Type} {P : Program} {f : α → Sem β} : ∀ (s : Sem α), pureRun P (s >>= f) = match pureRun P s with
    | some (.inl a) => pureRun P (f a)
    | some (.inr x) => some (.inr x)
    | none => none
  | .pure a => rfl
  | .program k => pr_bind (k P)
  | .mark e k => pr_bind k
  | .halt x => by cases x <;> rfl
  | .load .. => rfl
  | .store .. => rfl
  | .new .. => rfl
  | .shape .. => rfl
  | .freeze .. => rfl
  | .frozen .. => rfl
  | .getObj .. => rfl
  | .setObj .. => rfl
  | .choose .. => rfl
  | .sys .. => rfl
theorem pr_map {α β : Type} {P : Program} {f : α → β} (s : Sem α) : pureRun P (f <$> s) = match pureRun P s with
    | some (.inl a) => some (.inl (f a))
    | some (.inr x) => some (.inr x)
    | none => none := by
  rw [map_eq_pure_bind, pr_bind]
  cases pureRun P s with
  | none => rfl
  | some r => cases r <;> rfl
theorem pr_underlying {P : Program} {t : TypeId} {dsc : TypeDesc} (h : P.underlying t = some dsc) : pureRun P (underlying t) = some (.inl dsc) := by
  unfold underlying
  rw [pr_bind]
  simp [program, pureRun, h]
  rfl

theorem beq_dec {α : Type} [BEq α] [LawfulBEq α] [DecidableEq α] (a b : α) : (a == b) = decide (a = b) := by rw [Bool.eq_iff_iff]; simp
theorem pr_eqb {P : Program} {t : TypeId} (ht : P.underlying t = some .bool) (a b : Bool) (n : Nat) : pureRun P (Op.equalIn (n + 1) t (.bool a) (.bool b)) = some (.inl (a == b)) := by
  simp [Op.equalIn, pr_bind, pr_underlying ht, pr_pure]
theorem pr_eqn {P : Program} {t : TypeId} {ms} (ht : P.underlying t = some (.interface ms)) (n : Nat) : pureRun P (Op.equalIn (n + 1) t .nilIface .nilIface) = some (.inl true) := by
  simp [Op.equalIn, pr_bind, pr_underlying ht, pr_pure]

theorem flat1 {o : Oper} {res : Value} (ho : (o.op.operands.all fun x => (ρ x).flat.isSome) = true) (h : pureRun E.P (execOp (fun x => ((ρ x).flat).getD undef) o) = some (.inl (.value res))) : flatOp E ρ m o = some (.ret (.v res) m) := by
  unfold flatOp
  rw [if_pos ho, h]

theorem flat2 {x y : Operand} {u v : Value} {op : BinOp} {t yt : TypeId} {res : Value} (hx : ρ x = .v u) (hy : ρ y = .v v) (h : pureRun E.P (do eqGuard op t x y u v; binOp op t u v : Sem Value) = some (.inl res)) :
    aop E call fn ρ m ⟨d, .binOp op t x y yt, ty, pos, aft, gd⟩ = some (.ret (.v res) m) := by
  have hb : flatOp E ρ m ⟨d, .binOp op t x y yt, ty, pos, aft, gd⟩ = some (.ret (.v res) m) := by
    refine flat1 (by simp [Op.operands, hx, hy, AV.flat]) ?_
    simp only [execOp, hx, hy, AV.flat, Option.getD_some]
    rw [pr_bind, h]
    rfl
  simp only [aop, hb]

theorem a_add {x y : Operand} {k : IntKind} {a b c : Int} {t yt : TypeId} (hx : ρ x = .v (.int k a)) (hy : ρ y = .v (.int k b)) (hc : k.wrap (a + b) = c) : aop E call fn ρ m ⟨d, .binOp .add t x y yt, ty, pos, aft, gd⟩ = some (.ret (.v (.int k c)) m) :=
  flat2 hx hy (by simp [eqGuard, binOp, Op.intArith, pr_pure, hc])
theorem a_sub {x y : Operand} {k : IntKind} {a b c : Int} {t yt : TypeId} (hx : ρ x = .v (.int k a)) (hy : ρ y = .v (.int k b)) (hc : k.wrap (a - b) = c) : aop E call fn ρ m ⟨d, .binOp .sub t x y yt, ty, pos, aft, gd⟩ = some (.ret (.v (.int k c)) m) :=
  flat2 hx hy (by simp [eqGuard, binOp, Op.intArith, pr_pure, hc])
theorem a_mul {x y : Operand} {k : IntKind} {a b c : Int} {t yt : TypeId} (hx : ρ x = .v (.int k a)) (hy : ρ y = .v (.int k b)) (hc : k.wrap (a * b) = c) : aop E call fn ρ m ⟨d, .binOp .mul t x y yt, ty, pos, aft, gd⟩ = some (.ret (.v (.int k c)) m) :=
  flat2 hx hy (by simp [eqGuard, binOp, Op.intArith, pr_pure, hc])
theorem a_quo {x y : Operand} {k : IntKind} {a b c : Int} {t yt : TypeId} (hx : ρ x = .v (.int k a)) (hy : ρ y = .v (.int k b)) (h0 : b ≠ 0) (hc : k.wrap (a.tdiv b) = c) : aop E call fn ρ m ⟨d, .binOp .quo t x y yt, ty, pos, aft, gd⟩ = some (.ret (.v (.int k c)) m) :=
  flat2 hx hy (by simp [eqGuard, binOp, Op.intDiv, pr_pure, hc, h0])
theorem a_rem {x y : Operand} {k : IntKind} {a b c : Int} {t yt : TypeId} (hx : ρ x = .v (.int k a)) (hy : ρ y = .v (.int k b)) (h0 : b ≠ 0) (hc : a.tmod b = c) : aop E call fn ρ m ⟨d, .binOp .rem t x y yt, ty, pos, aft, gd⟩ = some (.ret (.v (.int k c)) m) :=
  flat2 hx hy (by simp [eqGuard, binOp, Op.intDiv, pr_pure, hc, h0])
theorem a_and {x y : Operand} {k : IntKind} {a b c : Int} {t yt : TypeId} (hx : ρ x = .v (.int k a)) (hy : ρ y = .v (.int k b)) (hc : k.wrap (BitVec.ofInt k.bits a &&& BitVec.ofInt k.bits b).toNat = c) : aop E call fn ρ m ⟨d, .binOp .and t x y yt, ty, pos, aft, gd⟩ = some (.ret (.v (.int k c)) m) :=
  flat2 hx hy (by rw [show binOp .and t (.int k a) (.int k b) = Op.intBits .and k a b by simp [binOp]]; simp only [Op.intBits, hc]; rfl)
theorem a_or {x y : Operand} {k : IntKind} {a b c : Int} {t yt : TypeId} (hx : ρ x = .v (.int k a)) (hy : ρ y = .v (.int k b)) (hc : k.wrap (BitVec.ofInt k.bits a ||| BitVec.ofInt k.bits b).toNat = c) : aop E call fn ρ m ⟨d, .binOp .or t x y yt, ty, pos, aft, gd⟩ = some (.ret (.v (.int k c)) m) :=
  flat2 hx hy (by rw [show binOp .or t (.int k a) (.int k b) = Op.intBits .or k a b by simp [binOp]]; simp only [Op.intBits, hc]; rfl)
theorem a_xor {x y : Operand} {k : IntKind} {a b c : Int} {t yt : TypeId} (hx : ρ x = .v (.int k a)) (hy : ρ y = .v (.int k b)) (hc : k.wrap (BitVec.ofInt k.bits a ^^^ BitVec.ofInt k.bits b).toNat = c) : aop E call fn ρ m ⟨d, .binOp .xor t x y yt, ty, pos, aft, gd⟩ = some (.ret (.v (.int k c)) m) :=
  flat2 hx hy (by rw [show binOp .xor t (.int k a) (.int k b) = Op.intBits .xor k a b by simp [binOp]]; simp only [Op.intBits, hc]; rfl)
theorem a_andNot {x y : Operand} {k : IntKind} {a b c : Int} {t yt : TypeId} (hx : ρ x = .v (.int k a)) (hy : ρ y = .v (.int k b)) (hc : k.wrap (BitVec.ofInt k.bits a &&& ~~~BitVec.ofInt k.bits b).toNat = c) : aop E call fn ρ m ⟨d, .binOp .andNot t x y yt, ty, pos, aft, gd⟩ = some (.ret (.v (.int k c)) m) :=
  flat2 hx hy (by rw [show binOp .andNot t (.int k a) (.int k b) = Op.intBits .andNot k a b by simp [binOp]]; simp only [Op.intBits, hc]; rfl)
theorem a_shl {x y : Operand} {k yk : IntKind} {a b c : Int} {t yt : TypeId} (hx : ρ x = .v (.int k a)) (hy : ρ y = .v (.int yk b)) (h0 : 0 ≤ b) (hc : k.wrap (a * 2 ^ min b.toNat k.bits) = c) : aop E call fn ρ m ⟨d, .binOp .shl t x y yt, ty, pos, aft, gd⟩ = some (.ret (.v (.int k c)) m) :=
  flat2 hx hy (by simp [eqGuard, binOp, Op.shift, pr_pure, hc, Int.not_lt.2 h0])
theorem a_shr {x y : Operand} {k yk : IntKind} {a b c : Int} {t yt : TypeId} (hx : ρ x = .v (.int k a)) (hy : ρ y = .v (.int yk b)) (h0 : 0 ≤ b) (hc : a.fdiv (2 ^ min b.toNat k.bits) = c) : aop E call fn ρ m ⟨d, .binOp .shr t x y yt, ty, pos, aft, gd⟩ = some (.ret (.v (.int k c)) m) :=
  flat2 hx hy (by simp [eqGuard, binOp, Op.shift, pr_pure, hc, Int.not_lt.2 h0])
theorem a_lss {x y : Operand} {k : IntKind} {a b : Int} {t yt : TypeId} (hx : ρ x = .v (.int k a)) (hy : ρ y = .v (.int k b)) : aop E call fn ρ m ⟨d, .binOp .lss t x y yt, ty, pos, aft, gd⟩ = some (.ret (.v (.bool (decide (a < b)))) m) :=
  flat2 hx hy (by simp [eqGuard, binOp, Op.intCmp, pr_pure])
theorem a_leq {x y : Operand} {k : IntKind} {a b : Int} {t yt : TypeId} (hx : ρ x = .v (.int k a)) (hy : ρ y = .v (.int k b)) : aop E call fn ρ m ⟨d, .binOp .leq t x y yt, ty, pos, aft, gd⟩ = some (.ret (.v (.bool (decide (a ≤ b)))) m) :=
  flat2 hx hy (by simp [eqGuard, binOp, Op.intCmp, pr_pure])
theorem a_gtr {x y : Operand} {k : IntKind} {a b : Int} {t yt : TypeId} (hx : ρ x = .v (.int k a)) (hy : ρ y = .v (.int k b)) : aop E call fn ρ m ⟨d, .binOp .gtr t x y yt, ty, pos, aft, gd⟩ = some (.ret (.v (.bool (decide (b < a)))) m) :=
  flat2 hx hy (by simp [eqGuard, binOp, Op.intCmp, pr_pure])
theorem a_geq {x y : Operand} {k : IntKind} {a b : Int} {t yt : TypeId} (hx : ρ x = .v (.int k a)) (hy : ρ y = .v (.int k b)) : aop E call fn ρ m ⟨d, .binOp .geq t x y yt, ty, pos, aft, gd⟩ = some (.ret (.v (.bool (decide (b ≤ a)))) m) :=
  flat2 hx hy (by simp [eqGuard, binOp, Op.intCmp, pr_pure])

theorem a_eql {x y : Operand} {k : IntKind} {a b : Int} {t yt : TypeId} (hx : ρ x = .v (.int k a)) (hy : ρ y = .v (.int k b)) : aop E call fn ρ m ⟨d, .binOp .eql t x y yt, ty, pos, aft, gd⟩ = some (.ret (.v (.bool (decide (a = b)))) m) :=
  flat2 hx hy (by simp [eqGuard, binOp, Op.intCmp, pr_pure, pr_bind, beq_dec])
theorem a_neq {x y : Operand} {k : IntKind} {a b : Int} {t yt : TypeId} (hx : ρ x = .v (.int k a)) (hy : ρ y = .v (.int k b)) : aop E call fn ρ m ⟨d, .binOp .neq t x y yt, ty, pos, aft, gd⟩ = some (.ret (.v (.bool (!decide (a = b)))) m) :=
  flat2 hx hy (by simp [eqGuard, binOp, Op.intCmp, pr_pure, pr_bind, bne, beq_dec])
theorem a_eqs {x y : Operand} {a b : List UInt8} {t yt : TypeId} (hx : ρ x = .v (.string (bstr a))) (hy : ρ y = .v (.string (bstr b))) : aop E call fn ρ m ⟨d, .binOp .eql t x y yt, ty, pos, aft, gd⟩ = some (.ret (.v (.bool (decide (a = b)))) m) :=
  flat2 hx hy (by simp [eqGuard, binOp, Op.stringOp, pr_pure, pr_bind, Lib.toList_data]; exact beq_dec a b)
theorem a_neqs {x y : Operand} {a b : List UInt8} {t yt : TypeId} (hx : ρ x = .v (.string (bstr a))) (hy : ρ y = .v (.string (bstr b))) : aop E call fn ρ m ⟨d, .binOp .neq t x y yt, ty, pos, aft, gd⟩ = some (.ret (.v (.bool (!decide (a = b)))) m) :=
  flat2 hx hy (by simp [eqGuard, binOp, Op.stringOp, pr_pure, pr_bind, Lib.toList_data, bne]; exact beq_dec a b)
theorem a_lsss {x y : Operand} {a b : List UInt8} {t yt : TypeId} (hx : ρ x = .v (.string (bstr a))) (hy : ρ y = .v (.string (bstr b))) : aop E call fn ρ m ⟨d, .binOp .lss t x y yt, ty, pos, aft, gd⟩ = some (.ret (.v (.bool (Op.bytesLess a b))) m) :=
  flat2 hx hy (by simp [eqGuard, binOp, Op.stringOp, pr_pure, pr_bind, Lib.toList_data])
theorem a_geqs {x y : Operand} {a b : List UInt8} {t yt : TypeId} (hx : ρ x = .v (.string (bstr a))) (hy : ρ y = .v (.string (bstr b))) : aop E call fn ρ m ⟨d, .binOp .geq t x y yt, ty, pos, aft, gd⟩ = some (.ret (.v (.bool (!Op.bytesLess a b))) m) :=
  flat2 hx hy (by simp [eqGuard, binOp, Op.stringOp, pr_pure, pr_bind, Lib.toList_data])
theorem a_cats {x y : Operand} {a b : List UInt8} {t yt : TypeId} (hx : ρ x = .v (.string (bstr a))) (hy : ρ y = .v (.string (bstr b))) (hl : a.length + b.length ≤ 9223372036854775807) : aop E call fn ρ m ⟨d, .binOp .add t x y yt, ty, pos, aft, gd⟩ = some (.ret (.v (.string (bstr (a ++ b)))) m) :=
  flat2 hx hy (by
    have h2 : ¬ (((bstr a).size + (bstr b).size : Nat) : Int) > IntKind.i64.max := by
      have : IntKind.i64.max = 9223372036854775807 := by decide
      rw [this]
      have h3 : (bstr a).size = a.length := by simp [bstr, ByteArray.size]
      have h4 : (bstr b).size = b.length := by simp [bstr, ByteArray.size]
      rw [h3, h4]; omega
    have h5 : bstr a ++ bstr b = bstr (a ++ b) := by
      apply ByteArray.ext
      simp [bstr]
    simp only [eqGuard, binOp, Op.stringOp, if_neg h2, h5]
    rfl)
theorem a_eqb {x y : Operand} {a b : Bool} {t yt : TypeId} (ht : E.P.underlying t = some .bool) (hx : ρ x = .v (.bool a)) (hy : ρ y = .v (.bool b)) : aop E call fn ρ m ⟨d, .binOp .eql t x y yt, ty, pos, aft, gd⟩ = some (.ret (.v (.bool (a == b))) m) :=
  flat2 hx hy (by have := pr_eqb ht a b 9999; simp only [eqGuard, binOp, Op.equal, Op.maxDepth]; simp [pr_bind, this, pr_pure, pr_map])
theorem a_neqb {x y : Operand} {a b : Bool} {t yt : TypeId} (ht : E.P.underlying t = some .bool) (hx : ρ x = .v (.bool a)) (hy : ρ y = .v (.bool b)) : aop E call fn ρ m ⟨d, .binOp .neq t x y yt, ty, pos, aft, gd⟩ = some (.ret (.v (.bool (a != b))) m) :=
  flat2 hx hy (by have := pr_eqb ht a b 9999; simp only [eqGuard, binOp, Op.equal, Op.maxDepth]; simp [pr_bind, this, pr_pure, pr_map, bne])
theorem a_not {x : Operand} {a : Bool} {t : TypeId} (hx : ρ x = .v (.bool a)) : aop E call fn ρ m ⟨d, .unOp .not t x, ty, pos, aft, gd⟩ = some (.ret (.v (.bool (!a))) m) := by
  have hb : flatOp E ρ m ⟨d, .unOp .not t x, ty, pos, aft, gd⟩ = some (.ret (.v (.bool (!a))) m) := by
    refine flat1 (by simp [Op.operands, hx, AV.flat]) ?_
    simp [execOp, hx, AV.flat, Op.unary, pr_bind, pr_pure]
  simp only [aop, hb]
theorem a_neg {x : Operand} {k : IntKind} {a c : Int} {t : TypeId} (hx : ρ x = .v (.int k a)) (hc : k.wrap (0 - a) = c) : aop E call fn ρ m ⟨d, .unOp .neg t x, ty, pos, aft, gd⟩ = some (.ret (.v (.int k c)) m) := by
  have hb : flatOp E ρ m ⟨d, .unOp .neg t x, ty, pos, aft, gd⟩ = some (.ret (.v (.int k c)) m) := by
    refine flat1 (by simp [Op.operands, hx, AV.flat]) ?_
    subst hc
    simp [execOp, hx, AV.flat, Op.unary, Op.intArith, pr_bind, pr_pure]
  simp only [aop, hb]
/-- Errors and nil. -/
theorem a_neqn {x y : Operand} {t yt : TypeId} {ms} (ht : E.P.underlying t = some (.interface ms)) (hx : ρ x = .v .nilIface) (hy : y = .const .nilIface) (hy' : ρ y = .v .nilIface) : aop E call fn ρ m ⟨d, .binOp .neq t x y yt, ty, pos, aft, gd⟩ = some (.ret (.v (.bool false)) m) :=
  flat2 hx hy' (by subst hy; show pureRun _ (do eqGuard .neq t x (.const .nilIface) .nilIface .nilIface; pure (.bool (!(← Op.equalIn (9999 + 1) t .nilIface .nilIface))) : Sem Value) = _; have := pr_eqn ht 9999; simp [eqGuard, pr_bind, pr_pure, pr_map, this])
theorem a_eqn {x y : Operand} {t yt : TypeId} {ms} (ht : E.P.underlying t = some (.interface ms)) (hx : ρ x = .v .nilIface) (hy : y = .const .nilIface) (hy' : ρ y = .v .nilIface) : aop E call fn ρ m ⟨d, .binOp .eql t x y yt, ty, pos, aft, gd⟩ = some (.ret (.v (.bool true)) m) :=
  flat2 hx hy' (by subst hy; show pureRun _ (do eqGuard .eql t x (.const .nilIface) .nilIface .nilIface; pure (.bool (← Op.equalIn (9999 + 1) t .nilIface .nilIface)) : Sem Value) = _; have := pr_eqn ht 9999; simp [eqGuard, pr_bind, pr_pure, pr_map, this])
theorem anil_bin {op : BinOp} {x y : Operand} {t yt : TypeId} {u r : AV} (hu : (ρ x).flat = none ∨ (ρ y).flat = none) (hf : afact E op t (ρ x) (ρ y) = none) (h : anilCmp E op t (ρ x) (ρ y) = some r) :
    aop E call fn ρ m ⟨d, .binOp op t x y yt, ty, pos, aft, gd⟩ = some (.ret r m) := by
  have hb : flatOp E ρ m ⟨d, .binOp op t x y yt, ty, pos, aft, gd⟩ = none := by
    unfold flatOp
    rw [if_neg]
    rcases hu with h | h <;> simp [Op.operands, h]
  simp only [aop, hb, hf, h, Option.map_some]
/-- An error of the package's is not nil. -/
theorem a_equ {x y : Operand} {t yt : TypeId} {i : Nat} {ms} (hE : E.facts = []) (ht : E.P.underlying t = some (.interface ms)) (hx : ρ x = .u i) (hy : ρ y = .v .nilIface) : aop E call fn ρ m ⟨d, .binOp .eql t x y yt, ty, pos, aft, gd⟩ = some (.ret (.v (.bool false)) m) :=
  anil_bin (u := .u i) (.inl (by rw [hx]; rfl)) (by simp [afact, hE]) (by simp [anilCmp, ht, hx, hy, isNilOf, isOf, nonNil])
theorem a_nequ {x y : Operand} {t yt : TypeId} {i : Nat} {ms} (hE : E.facts = []) (ht : E.P.underlying t = some (.interface ms)) (hx : ρ x = .u i) (hy : ρ y = .v .nilIface) : aop E call fn ρ m ⟨d, .binOp .neq t x y yt, ty, pos, aft, gd⟩ = some (.ret (.v (.bool true)) m) :=
  anil_bin (u := .u i) (.inl (by rw [hx]; rfl)) (by simp [afact, hE]) (by simp [anilCmp, ht, hx, hy, isNilOf, isOf, nonNil])

theorem a_conv {x : Operand} {s t : TypeId} {ds : TypeDesc} {k k' : IntKind} {n c : Int} (hs : E.P.underlying s = some ds) (ht : E.P.underlying t = some (.int k)) (hx : ρ x = .v (.int k' n)) (hc : k.wrap n = c) :
    aop E call fn ρ m ⟨d, .convert s t x, ty, pos, aft, gd⟩ = some (.ret (.v (.int k c)) m) := by
  have hb : flatOp E ρ m ⟨d, .convert s t x, ty, pos, aft, gd⟩ = some (.ret (.v (.int k c)) m) := by
    refine flat1 (by simp [Op.operands, hx, AV.flat]) ?_
    subst hc
    simp [execOp, hx, AV.flat, convert, pr_bind, pr_map, pr_pure, pr_underlying hs, pr_underlying ht, Conv.intToInt]
  simp only [aop, hb]

theorem a_extract {x : Operand} {i : Nat} {vs : List AV} {y : AV} (hx : ρ x = .tup vs) (hi : vs[i]? = some y) : aop E call fn ρ m ⟨d, .extract x i, ty, pos, aft, gd⟩ = some (.ret y m) := by
  simp only [aop, hx, hi, Option.map_some]
theorem a_len_sl {x : Operand} {t e : TypeId} {cells : List AV} {es n : Nat} {cap own : Option Nat} (ht : E.P.underlying t = some (.slice e)) (hx : ρ x = .sl cells es n cap own) :
    aop E call fn ρ m ⟨d, .call ⟨.builtin .len, #[x], #[t]⟩, ty, pos, aft, gd⟩ = some (.ret (.v (.int .i64 n)) m) := by
  have hb : flatOp E ρ m ⟨d, .call ⟨.builtin .len, #[x], #[t]⟩, ty, pos, aft, gd⟩ = none := by
    unfold flatOp; rw [if_neg]; simp [Op.operands, Call.operands, hx, AV.flat]
  simp [aop, hb, abuiltin, hx, ht]
theorem a_len_ref {x : Operand} {t e : TypeId} {i off es n : Nat} {cap : Option Nat} (ht : E.P.underlying t = some (.slice e)) (hx : ρ x = .ref i off es n cap) :
    aop E call fn ρ m ⟨d, .call ⟨.builtin .len, #[x], #[t]⟩, ty, pos, aft, gd⟩ = some (.ret (.v (.int .i64 n)) m) := by
  have hb : flatOp E ρ m ⟨d, .call ⟨.builtin .len, #[x], #[t]⟩, ty, pos, aft, gd⟩ = none := by
    unfold flatOp; rw [if_neg]; simp [Op.operands, Call.operands, hx, AV.flat]
  simp [aop, hb, abuiltin, hx, ht]
theorem a_cap_sl {x : Operand} {t e : TypeId} {cells : List AV} {es n c : Nat} {own : Option Nat} (ht : E.P.underlying t = some (.slice e)) (hx : ρ x = .sl cells es n (some c) own) :
    aop E call fn ρ m ⟨d, .call ⟨.builtin .cap, #[x], #[t]⟩, ty, pos, aft, gd⟩ = some (.ret (.v (.int .i64 c)) m) := by
  have hb : flatOp E ρ m ⟨d, .call ⟨.builtin .cap, #[x], #[t]⟩, ty, pos, aft, gd⟩ = none := by
    unfold flatOp; rw [if_neg]; simp [Op.operands, Call.operands, hx, AV.flat]
  simp [aop, hb, abuiltin, hx, ht]

theorem a_load {a : Operand} {t : TypeId} {y : AV} (h : aload E m t (ρ a) = some y) : aop E call fn ρ m ⟨d, .load t a, ty, pos, aft, gd⟩ = some (.ret y m) := by
  simp only [aop, h, Option.map_some]
theorem ald_one {t : TypeId} {s i off : Nat} {cells : List AV} {e : TypeId} {p : Bool} {y : AV} (ht : tagg E t = some false) (hs : tsize E t = some s) (hm : m[i]? = some (.wr cells e p)) (hc : cells[off]? = some y) : aload E m t (.ptr i off) = some y := by
  simp [aload, behind, cellsAt, hm, gather, ht, hs, List.head?_drop, hc]
theorem ald_agg {t : TypeId} {s i off : Nat} {cells l : List AV} {e : TypeId} {p : Bool} (ht : tagg E t = some true) (hs : tsize E t = some s) (hm : m[i]? = some (.wr cells e p)) (hc : (cells.drop off).take s = l) (hl : l.length = s) : aload E m t (.ptr i off) = some (.agg l) := by
  have : s ≤ (cells.drop off).length := by
    have := congrArg List.length hc
    rw [List.length_take, hl] at this
    omega
  simp only [aload, behind, cellsAt, hm, Option.map_some, Option.bind_some, gather, ht, hs, if_pos this, hc]
theorem ald_ep_one {t : TypeId} {s : Nat} {cells : List AV} {y : AV} (ht : tagg E t = some false) (hs : tsize E t = some s) (hc : cells.head? = some y) : aload E m t (.ep cells) = some y := by
  simp [aload, behind, gather, ht, hs, hc]
theorem ald_ep_agg {t : TypeId} {s : Nat} {cells l : List AV} (ht : tagg E t = some true) (hs : tsize E t = some s) (hc : cells.take s = l) (hl : l.length = s) : aload E m t (.ep cells) = some (.agg l) := by
  have : s ≤ cells.length := by
    have := congrArg List.length hc
    rw [List.length_take, hl] at this
    omega
  simp only [aload, behind, Option.bind_some, gather, ht, hs, if_pos this, hc]
theorem ald_err {t : TypeId} {s i : Nat} (ht : tagg E t = some false) (hs : tsize E t = some s) (hi : E.sent i = true) : aload E m t (.v (.pointer (some ⟨i, 0, none⟩))) = some (.u i) := by
  simp [aload, behind, hi, gather, ht, hs]
theorem ald_glob {t : TypeId} {s i off : Nat} {cs : List Value} {v : Value} (ht : tagg E t = some false) (hs : tsize E t = some s) (hi : E.sent i = false) (hg : E.glob i = some cs) (hv : cs[off]? = some v) : aload E m t (.v (.pointer (some ⟨i, off, none⟩))) = some (.v v) := by
  simp [aload, behind, hi, hg, gather, ht, hs, List.head?_drop, hv]

theorem a_store {a x : Operand} {t : TypeId} {m' : AM} (h : astore E m t (ρ a) (ρ x) = some m') : aop E call fn ρ m ⟨d, .store t a x, ty, pos, aft, gd⟩ = some (.ret (.v undef) m') := by
  simp only [aop, h, Option.map_some]
theorem ast_ptr {t : TypeId} {s i off : Nat} {cells xs out : List AV} {e : TypeId} {p : Bool} {x : AV} (hs : tsize E t = some s) (hm : m[i]? = some (.wr cells e p)) (hx : x.cells = xs) (hl : xs.length = s) (hle : off + s ≤ cells.length) (hone : xs.all AV.one = true) (ho : putAt cells off xs = out) :
    astore E m t (.ptr i off) x = some (m.set i (.wr out e p)) := by
  subst hx ho
  simp only [astore, hm, hs, hl, hle, hone, and_self, if_true]

theorem a_alloc {t : TypeId} {z : Value} {cs : List AV} (hz : tzero E t = some z) (hc : z.cells.toList.map AV.v = cs) : aop E call fn ρ m ⟨d, .alloc t, ty, pos, aft, gd⟩ = some (.ret (.ptr m.length 0) (m ++ [.wr cs t false])) := by
  simp only [aop, hz, Option.map_some, hc]
theorem a_box {t : TypeId} {x : Operand} {cs : List AV} (hx : (ρ x).cells = cs) : aop E call fn ρ m ⟨d, .box t x, ty, pos, aft, gd⟩ = some (.ret (.ptr m.length 0) (m ++ [.wr cs t false])) := by
  simp only [aop, hx]
theorem a_fieldAddr {t : TypeId} {x : Operand} {f : Nat} {y : AV} (h : afieldAddr E t (ρ x) f = some y) : aop E call fn ρ m ⟨d, .fieldAddr t x f, ty, pos, aft, gd⟩ = some (.ret y m) := by
  simp only [aop, h, Option.map_some]
theorem afa_ptr {t : TypeId} {i off f s : Nat} {fs} {fd} (ht : E.P.underlying t = some (.struct fs)) (hf : fs[f]? = some fd) (hs : tsize E fd.type = some s) (h0 : s ≠ 0) : afieldAddr E t (.ptr i off) f = some (.ptr i (off + fd.offset)) := by
  simp [afieldAddr, ht, hf, hs, h0]
theorem afa_ep {t : TypeId} {f s : Nat} {fs} {fd} {cells l : List AV} (ht : E.P.underlying t = some (.struct fs)) (hf : fs[f]? = some fd) (hs : tsize E fd.type = some s) (h0 : s ≠ 0) (hl : (cells.drop fd.offset).take s = l) : afieldAddr E t (.ep cells) f = some (.ep l) := by
  simp [afieldAddr, ht, hf, hs, h0, hl]
theorem a_field {t : TypeId} {x : Operand} {f : Nat} {cs : List AV} {y : AV} (hx : ρ x = .agg cs) (h : afield E t (.agg cs) f = some y) : aop E call fn ρ m ⟨d, .field t x f, ty, pos, aft, gd⟩ = some (.ret y m) := by
  simp only [aop, hx, h, Option.map_some]
theorem a_indexAddr {t : TypeId} {x ix : Operand} {y : AV} (h : aindexAddr E t (ρ x) (ρ ix) = some y) : aop E call fn ρ m ⟨d, .indexAddr t x ix, ty, pos, aft, gd⟩ = some (.ret y m) := by
  simp only [aop, h, Option.map_some]
theorem aia_sl {t e : TypeId} {es n k : Nat} {kd : IntKind} {i : Int} {cells l : List AV} {cap own : Option Nat} (ht : E.P.underlying t = some (.slice e)) (hs : tsize E e = some es) (h0 : 0 < es) (hi : i = (k : Nat)) (hk : k < n) (hn : n * es ≤ cells.length) (hl : (cells.drop (k * es)).take es = l) :
    aindexAddr E t (.sl cells es n cap own) (.v (.int kd i)) = some (.ep l) := by
  subst hi
  have : asNat (.v (.int kd (k : Int))) = some k := by simp [asNat]
  simp only [aindexAddr, this, ht, hs, h0, hk, hn, and_self, if_true, hl]
theorem aia_ref {t e : TypeId} {es j off n k : Nat} {kd : IntKind} {i : Int} {cap : Option Nat} (ht : E.P.underlying t = some (.slice e)) (hs : tsize E e = some es) (hi : i = (k : Nat)) (hk : k < n) : aindexAddr E t (.ref j off es n cap) (.v (.int kd i)) = some (.ptr j (off + k * es)) := by
  subst hi
  have : asNat (.v (.int kd (k : Int))) = some k := by simp [asNat]
  simp only [aindexAddr, this, ht, hs, hk, and_self, if_true]
theorem aia_arr {t e : TypeId} {es j off n k : Nat} {kd : IntKind} {i : Int} (ht : E.P.underlying t = some (.array n e)) (hs : tsize E e = some es) (hi : i = (k : Nat)) (hk : k < n) : aindexAddr E t (.ptr j off) (.v (.int kd i)) = some (.ptr j (off + k * es)) := by
  subst hi
  have : asNat (.v (.int kd (k : Int))) = some k := by simp [asNat]
  simp only [aindexAddr, this, ht, hs, hk, if_true]
theorem aia_glob {t e : TypeId} {es g0 off n k : Nat} {kd : IntKind} {i : Int} (ht : E.P.underlying t = some (.array n e)) (hs : tsize E e = some es) (hi : i = (k : Nat)) (hk : k < n) (hn : 1 < n) : aindexAddr E t (.v (.pointer (some ⟨g0, off, none⟩))) (.v (.int kd i)) = some (.v (.pointer (some ⟨g0, off + k * es, none⟩))) := by
  subst hi
  have : asNat (.v (.int kd (k : Int))) = some k := by simp [asNat]
  have h2 : (⟨g0, off, none⟩ : Addr).add (k * es) = ⟨g0, off + k * es, none⟩ := by unfold Addr.add; split <;> simp_all
  simp [aindexAddr, this, ht, hs, hk, hn, h2]
/-- A byte of a text. -/
theorem a_index_str {t : TypeId} {x ix : Operand} {kd : IntKind} {k : Nat} {i : Int} {l : List UInt8} {b : UInt8} (ht : E.P.underlying t = some .string) (hx : ρ x = .v (.string (bstr l))) (hix : ρ ix = .v (.int kd i)) (hi : i = (k : Nat)) (hb : l[k]? = some b) :
    aop E call fn ρ m ⟨d, .index t x ix, ty, pos, aft, gd⟩ = some (.ret (byteA b) m) := by
  subst hi
  have hbs : (bstr l)[k]? = some b := by
    obtain ⟨h1, h2⟩ := List.getElem?_eq_some_iff.1 hb
    have hs : k < (bstr l).size := by simp [bstr, ByteArray.size]; exact h1
    rw [getElem?_pos (bstr l) k hs]
    congr 1
  have hf : flatOp E ρ m ⟨d, .index t x ix, ty, pos, aft, gd⟩ = some (.ret (byteA b) m) := by
    refine flat1 (by simp [Op.operands, hx, hix, AV.flat]) ?_
    simp [execOp, hx, hix, AV.flat, Instr.index, asIntOf, pr_bind, pr_map, pr_pure, pr_underlying ht, hbs]
  simp only [aop, hx, hf]
theorem a_index_arr {t e : TypeId} {x ix : Operand} {kd : IntKind} {n k s : Nat} {i : Int} {cs : List AV} {y : AV} (ht : E.P.underlying t = some (.array n e)) (hs : tsize E e = some s) (hx : ρ x = .agg cs) (hix : ρ ix = .v (.int kd i)) (hi : i = (k : Nat)) (hk : k < n) (hy : apart E e cs (k * s) = some y) :
    aop E call fn ρ m ⟨d, .index t x ix, ty, pos, aft, gd⟩ = some (.ret y m) := by
  subst hi
  have : asNat (.v (.int kd (k : Int))) = some k := by simp [asNat]
  simp [aop, hx, hix, aindex, ht, this, hk, hs, hy]
theorem a_makeFunc {f : Fn} {a b : Array Operand} {la lb : List AV} (ha : a.toList.map ρ = la) (hb : b.toList.map ρ = lb) : aop E call fn ρ m ⟨d, .makeFunc f a b, ty, pos, aft, gd⟩ = some (.ret (.fn f la lb) m) := by
  simp only [aop, ha, hb]
theorem a_nilCheck_ptr {x : Operand} {i off : Nat} (hx : ρ x = .ptr i off) : aop E call fn ρ m ⟨d, .nilCheck x, ty, pos, aft, gd⟩ = some (.ret (.ptr i off) m) := by
  simp only [aop, hx]
theorem a_nilCheck_ep {x : Operand} {cs : List AV} (hx : ρ x = .ep cs) : aop E call fn ρ m ⟨d, .nilCheck x, ty, pos, aft, gd⟩ = some (.ret (.ep cs) m) := by
  simp only [aop, hx]
theorem a_build {t : TypeId} {ps : Array (Nat × Operand)} {y : AV} (h : abuild E t (ps.toList.map fun (i, x) => (i, ρ x)) = some y) : aop E call fn ρ m ⟨d, .build t ps, ty, pos, aft, gd⟩ = some (.ret y m) := by
  simp only [aop, h, Option.map_some]
theorem a_buildSlice {t : TypeId} {n : Nat} {ps : Array (Nat × Operand)} {r : ARes} (h : abuildSlice E (E.lit fn) m t n (ps.toList.map fun (i, x) => (i, ρ x)) = some r) : aop E call fn ρ m ⟨d, .buildSlice t n ps, ty, pos, aft, gd⟩ = some r := by
  simp only [aop, h]
/-- A text as bytes. -/
theorem a_bytes {x : Operand} {s t e : TypeId} {ds : TypeDesc} {l : List UInt8} (hs : E.P.underlying s = some ds) (ht : E.P.underlying t = some (.slice e)) (he : isByte E e = true) (hx : ρ x = .v (.string (bstr l))) (hl : l.length ≤ maxLen) (hf : flatOp E ρ m ⟨d, .convert s t x, ty, pos, aft, gd⟩ = none) :
    aop E call fn ρ m ⟨d, .convert s t x, ty, pos, aft, gd⟩ = some (.ret (.sl (bytesA l) 1 l.length none (some m.length)) (m ++ [.tok])) := by
  have hz : (bstr l).size = l.length := by simp [bstr, ByteArray.size]
  simp only [aop, hf, aconvert, hs, ht, hx, he, hz, hl, and_self, if_true, byteVals_bstr]
end
end Go.Vm
