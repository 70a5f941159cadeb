/- The symbolic layer: loops, frames told by their living slots, the ends of functions. -/
import Derived.Test.YtmppnmffbmpcpaaDoorCxGrow
set_option linter.unusedVariables false
set_option linter.unusedSimpArgs false
namespace Go.Vm
open Go.RowKit

def updL (ψ : Fr) : List (Nat × AV) → Fr
  | [] => ψ
  | (t, x) :: r => upd (updL ψ r) t x
def AllAt (φ : Fr) : List (Nat × AV) → Prop
  | [] => True
  | (t, x) :: r => φ t = x ∧ AllAt φ r
theorem updL_of {φ : Fr} : ∀ (l : List (Nat × AV)), AllAt φ l → φ = updL φ l
  | [], _ => rfl
  | (t, x) :: r, ⟨h1, h2⟩ => by
    have := updL_of r h2
    rw [updL, ← this, ← h1, upd_self]
theorem int_eq {k : IntKind} {a b : Int} (h : a = b) : AV.v (.int k a) = .v (.int k b) := by rw [h]

section
variable {E : Env} {N : Nat} {ds : List Deferred}
/-- A loop, told by what holds at its head; every round lowers the measure. -/
theorem run_ind {α : Type} (I : α → Fr → AM → Prop) (μ : α → Nat) (a0 : α) {c : Code} {k : List Item} {φ : Fr} {m : AM} {R : CX → Fr → AM → Prop} (h0 : I a0 φ m)
    (step : ∀ a φ m, I a φ m → (∀ a' φ' m', μ a' < μ a → I a' φ' m' → RunJ E N ds (.inLoop c :: k) φ' m' R) → RunJ E N ds (.code c :: .inLoop c :: k) φ m R) : RunJ E N ds (.code (.loop c) :: k) φ m R := by
  have key : ∀ n a φ m, μ a = n → I a φ m → RunJ E N ds (.code c :: .inLoop c :: k) φ m R := by
    intro n
    induction n using Nat.strongRecOn with
    | _ n ih =>
      intro a φ m hn hI
      exact step a φ m hI fun a' φ' m' hlt hI' => run_inLoop (ih (μ a') (hn ▸ hlt) a' φ' m' rfl hI')
  exact run_loop (key _ a0 φ m rfl h0)

/-- A slot's value, told more loosely. -/
theorem run_weak {k : List Item} {φ : Fr} {m : AM} {R : CX → Fr → AM → Prop} (t : Nat) {y : AV} (h : Le (φ t) y) (hr : RunJ E N ds k (upd φ t y) m R) : RunJ E N ds k φ m R := by
  refine ⟨fun w0 g act w hi hf => hr.run w0 g act w hi ⟨hf.1, fun s v hv => ?_, hf.3⟩⟩
  unfold upd
  split
  · rename_i e
    subst e
    exact h g v (hf.2 _ v hv)
  · exact hf.2 s v hv

variable {ops : Array Oper} {rest : List Oper} {φ : Fr} {m : AM} {K : Fr → AM → Prop} {R : CX → Fr → AM → Prop} {d : Option Tmp} {ty : TypeId} {pos : String} {aft : Array Edge}
/-- A slot's value, told more loosely, inside a region. -/
theorem ops_weak (t : Nat) {y : AV} (h : Le (φ t) y) (hr : OpsJ E N ds ops rest (upd φ t y) m K R) : OpsJ E N ds ops rest φ m K R := by
  refine ⟨fun w0 g act w hi hf => hr.run w0 g act w hi ⟨hf.1, fun s v hv => ?_, hf.3⟩⟩
  unfold upd
  split
  · rename_i e
    subst e
    exact h g v (hf.2 _ v hv)
  · exact hf.2 s v hv
/-- A truth value that decides what follows. -/
theorem ops_split {t : Nat} {b : Bool} (h : ev N φ (.tmp t) = .v (.bool b)) (ht : b = true → OpsJ E N ds ops rest (upd φ t (.v (.bool true))) m K R) (hf : b = false → OpsJ E N ds ops rest (upd φ t (.v (.bool false))) m K R) : OpsJ E N ds ops rest φ m K R := by
  have hx : ∀ c, b = c → φ = upd φ t (.v (.bool c)) ∨ ¬ t < N := fun c hc => by
    by_cases hN : t < N
    · left
      simp only [ev, if_pos hN] at h
      rw [← hc, ← h, upd_self]
    · exact .inr hN
  by_cases hN : t < N
  · cases b with
    | true => rw [(hx true rfl).resolve_right (fun h => h hN)]; exact ht rfl
    | false => rw [(hx false rfl).resolve_right (fun h => h hN)]; exact hf rfl
  · simp only [ev, if_neg hN] at h
    have := AV.v.inj h
    simp [undef] at this
theorem ops_splitF {t : Nat} {b : Bool} (h : ev N φ (.tmp t) = .v (.bool b)) (hf : b = false → OpsJ E N ds ops rest (upd φ t (.v (.bool false))) m K R) (ht : b = true → OpsJ E N ds ops rest (upd φ t (.v (.bool true))) m K R) : OpsJ E N ds ops rest φ m K R := ops_split h ht hf
/-- 'append' to a slice of this call's own. -/
theorem ops_append {m0 : AM} {sT xT e : TypeId} {es bytes : Nat} {z : Value} {a b : Operand} {cells ys : List AV} {x : AV} {dx : TypeDesc} (fn : FuncId) (k n : Nat) (hlin : E.linear fn = false) (hT : SlT E sT e es bytes z) (hxT : E.P.underlying xT = some dx) (hni : notInt dx = true)
    (hx : ev N φ a = x) (h : Acc m0 m e es cells x) (hs : source m es (ev N φ b) = some ys) (hf : (ev N φ b).flat = none) (hk : ys.length = k * es) (hone : ys.all AV.one = true) (hn : cells.length = n * es) (hb1 : (n + k) * bytes ≤ maxBytes) (hb2 : n + k ≤ maxLen)
    (hc : ∀ x' m', Acc m0 m' e es (cells ++ ys) x' → Kept m m' → OpsJ E N ds ops rest (fput φ d x') m' K R) :
    OpsJ E N ds ops (⟨d, .call ⟨.builtin .append, #[a, b], #[sT, xT]⟩, ty, pos, aft, none⟩ :: rest) φ m K R := by
  obtain ⟨x', m', h1, h2, h3⟩ := acc_append (fn := fn) (d := d) (ty := ty) (pos := pos) (aft := aft) (gd := none) (call := noCall) hT hxT hni hlin hx h hs hk hone hn hb1 hb2 (flat_none1 ⟨b, by simp, hf⟩)
  exact ops_ret h1 rfl rfl (hc x' m' h2 h3)
end
end Go.Vm
