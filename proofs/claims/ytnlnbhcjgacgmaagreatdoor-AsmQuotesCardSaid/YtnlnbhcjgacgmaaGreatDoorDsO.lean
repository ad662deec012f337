/- A deterministic layer over the model, part O: sameness; operations that may come in either order. -/
import Derived.Test.YtnlnbhcjgacgmaaGreatDoorDsN
set_option linter.unusedVariables false
set_option linter.unusedSimpArgs false
namespace Go.Ds
noncomputable section

/-! ### Sameness of values -/
def oaEq : Option Addr → Option Addr → Bool
  | none, none => true
  | some a, some b => Nat.beq a.block b.block && Nat.beq a.off b.off && (match a.spot, b.spot with | none, none => true | some x, some y => Nat.beq x y | _, _ => false)
  | _, _ => false
def vlEq (f : Value → Value → Bool) : List Value → List Value → Bool
  | [], [] => true
  | a :: x, b :: y => f a b && vlEq f x y
  | _, _ => false
def eqV : Nat → Value → Value → Bool
  | 0, _, _ => false
  | d + 1, x, y =>
    match x, y with
    | .bool a, .bool b => a == b
    | .int k a, .int k' b => decide (k = k') && decide (a = b)
    | .string a, .string b => bsEq a.data.toList b.data.toList
    | .pointer a, .pointer b => oaEq a b
    | .slice a n c, .slice a' n' c' => oaEq a a' && Nat.beq n n' && Nat.beq c c'
    | .map none, .map none => true
    | .map (some a), .map (some b) => Nat.beq a b
    | .nilFunc, .nilFunc => true
    | .nilIface, .nilIface => true
    | .iface t v, .iface t' v' => Nat.beq t t' && eqV d v v'
    | .agg a, .agg b => vlEq (eqV d) a.toList b.toList
    | .tuple a, .tuple b => vlEq (eqV d) a.toList b.toList
    | .func f a b, .func f' a' b' => decide (f = f') && vlEq (eqV d) a.toList a'.toList && vlEq (eqV d) b.toList b'.toList
    | _, _ => false
theorem oaEq_eq {a b : Option Addr} (h : oaEq a b = true) : a = b := by
  cases a with
  | none => cases b with | none => rfl | some _ => cases h
  | some a =>
    cases b with
    | none => cases h
    | some b =>
      obtain ⟨b1, o1, s1⟩ := a
      obtain ⟨b2, o2, s2⟩ := b
      simp only [oaEq, Bool.and_eq_true] at h
      obtain ⟨⟨h1, h2⟩, h3⟩ := h
      have e1 := Nat.eq_of_beq_eq_true h1
      have e2 := Nat.eq_of_beq_eq_true h2
      subst e1; subst e2
      cases s1 <;> cases s2 <;> simp at h3
      · rfl
      · subst h3; rfl
theorem vlEq_eq {f : Value → Value → Bool} (hf : ∀ a b, f a b = true → a = b) : ∀ {x y : List Value}, vlEq f x y = true → x = y := by
  intro x
  induction x with
  | nil => intro y h; cases y with | nil => rfl | cons _ _ => cases h
  | cons a x ih =>
    intro y h
    cases y with
    | nil => cases h
    | cons b y =>
      simp only [vlEq, Bool.and_eq_true] at h
      rw [hf a b h.1, ih h.2]
theorem eqV_eq : ∀ (d : Nat) (a b : Value), eqV d a b = true → a = b := by
  intro d
  induction d with
  | zero => intro a b h; cases h
  | succ d ih =>
    intro a b h
    unfold eqV at h
    split at h
    · simp at h; rw [h]
    · simp at h; rw [h.1, h.2]
    · rename_i x y
      rw [bsEq_eq] at h
      have h1 := eq_of_beq h
      obtain ⟨⟨x⟩⟩ := x
      obtain ⟨⟨y⟩⟩ := y
      simp only at h1
      rw [h1]
    · rw [oaEq_eq h]
    · simp only [Bool.and_eq_true] at h
      rw [oaEq_eq h.1.1, Nat.eq_of_beq_eq_true h.1.2, Nat.eq_of_beq_eq_true h.2]
    · rfl
    · rw [Nat.eq_of_beq_eq_true h]
    · rfl
    · rfl
    · simp only [Bool.and_eq_true] at h
      rw [Nat.eq_of_beq_eq_true h.1, ih _ _ h.2]
    · rw [Array.toList_inj.1 (vlEq_eq ih h)]
    · rw [Array.toList_inj.1 (vlEq_eq ih h)]
    · simp only [Bool.and_eq_true, decide_eq_true_eq] at h
      rw [h.1.1, Array.toList_inj.1 (vlEq_eq ih h.1.2), Array.toList_inj.1 (vlEq_eq ih h.2)]
    · cases h

/-! ### Operations that only look -/
def looks (o : Oper) : Bool :=
  match o.op with
  | .move _ => true
  | .assign _ => true
  | .pick _ _ _ => true
  | .build _ _ => true
  | .load _ _ => true
  | .nilCheck _ => true
  | .binOp _ _ _ _ _ => true
  | .unOp _ _ _ => true
  | .makeInterface _ _ => true
  | .makeFunc _ _ _ => true
  | .slice _ _ _ _ _ => true
  | .fieldAddr _ _ _ => true
  | .field _ _ _ => true
  | .indexAddr _ _ _ => true
  | .index _ _ _ => true
  | .lookup _ _ _ _ => true
  | .typeAssert _ _ _ _ => true
  | .extract _ _ => true
  | .convert _ _ _ => true
  | .call c => match c.callee with
    | .builtin .len => true
    | .builtin .cap => true
    | .builtin .unsafeSliceData => true
    | .builtin .min => true
    | .builtin .max => true
    | _ => false
  | _ => false
/-- What such an operation gives; the memory is left as it is. -/
def pval (C : Ctx) (ops : Array Oper) (T : Tr Value) (o : Oper) (H : DH) : Option Value :=
  match dwanted ops T o with
  | false => some undef
  | true =>
    match dop C (deval T) o H with
    | some (.val v, H') => if H'.n = H.n then some v else none
    | _ => none

theorem okV_inv {v : Option Value} {H : DH} {dr : DR} {H' : DH} (h : okV v H = some (dr, H')) : H' = H := by
  obtain ⟨x, hx, he⟩ := Option.map_eq_some_iff.1 h
  cases he; rfl
theorem dconvert_n {C : Ctx} {s d : TypeId} {x v : Value} {H H' : DH} (h : dconvert C s d x H = some (v, H')) : H' = H ∨ H'.n = H.n + 1 := by
  unfold dconvert at h
  repeat' (split at h)
  all_goals first
    | (cases h; exact .inl rfl)
    | (cases h; exact .inr rfl)
    | (cases h; done)
    | (obtain ⟨x, hx, he⟩ := Option.map_eq_some_iff.1 h; cases he; exact .inl rfl)
    | skip
  all_goals (simp only [] at h; split at h <;> first | (cases h; exact .inr rfl) | cases h)
theorem dop_looks {C : Ctx} {ρ : Operand → Value} {o : Oper} (hl : looks o = true) {H H' : DH} {v : Value} (h : dop C ρ o H = some (.val v, H')) (hn : H'.n = H.n) : H' = H := by
  obtain ⟨dst, op, type, pos, after, guard⟩ := o
  cases op <;> simp only [looks, Bool.false_eq_true] at hl <;> simp only [dop] at h
  all_goals first
    | (cases h; rfl)
    | exact okV_inv h
    | (repeat' (split at h) <;> first | (cases h; rfl) | exact okV_inv h | cases h)
    | skip
  case convert =>
    obtain ⟨p, hp, he⟩ := Option.map_eq_some_iff.1 h
    cases he
    rcases dconvert_n hp with h1 | h1
    · exact h1
    · omega
  case makeInterface =>
    split at h
    · split at h <;> cases h; rfl
    · cases h
  case call c =>
    unfold dcall at h
    cases hc : c.callee with
    | builtin b =>
      rw [hc] at hl h
      simp only at h
      obtain ⟨p, hp, he⟩ := Option.map_eq_some_iff.1 h
      cases he
      cases b <;> simp only [Bool.false_eq_true] at hl <;> unfold dbuiltin at hp <;> (repeat' (split at hp)) <;> first
        | (cases hp; done)
        | (cases hp; rfl)
        | (obtain ⟨x, hx, he⟩ := Option.map_eq_some_iff.1 hp; cases he; rfl)
        | (exfalso; simp_all; done)
        | skip
    | value f => rw [hc] at hl; simp at hl
    | invoke a b => rw [hc] at hl; simp at hl
end
end Go.Ds
