/- A deterministic layer over the model, part N: frames; a region whose order is fixed. -/
import Derived.Test.YtnlnbhcjgacgmaaGreatDoorDsM
import Derived.Tactics
import Derived.LoopN
import Derived.Scope
set_option linter.unusedVariables false
set_option linter.unusedSimpArgs false
namespace Go.Ds
noncomputable section

/-! ### Operands -/
def deval (T : Tr Value) : Operand → Value
  | .tmp t => match T.get t with | some v => v | none => undef
  | .const v => v
  | .global g => .pointer (some ⟨2 * g + 1, 0, none⟩)
  | .func f => .func (.func f) #[] #[]
def okOpd (ng : Nat) : Operand → Bool
  | .const v => plain v
  | .global g => Nat.blt g ng
  | _ => true
def dput (dst : Option Tmp) (v : Value) (T : Tr Value) : Tr Value :=
  match dst with
  | some d => T.set d (some v)
  | none => T
def tget (T : Tr Value) (t : Nat) : Value := match T.get t with | some v => v | none => undef
theorem tget_set (T : Tr Value) (k : Nat) (v : Value) (t : Nat) : tget (T.set k (some v)) t = if t = k then v else tget T t := by
  unfold tget
  rw [Tr.get_set]
  split
  · rename_i v' h; by_cases e : t = k
    · rw [if_pos e] at h; cases h; rw [if_pos e]
    · rw [if_neg e] at h; rw [if_neg e, h]
  · rename_i h; by_cases e : t = k
    · rw [if_pos e] at h; cases h
    · rw [if_neg e] at h; rw [if_neg e, h]

/-- Package-level variables are seen. -/
def GOK (ng : Nat) (β : Emb) : Prop := ∀ g, g < ng → ∃ s, β (2 * g + 1) = some ⟨g, 0, s⟩
theorem GOK.mono {ng : Nat} {β β' : Emb} (h : GOK ng β) (hle : EmbLe β β') : GOK ng β' := fun g hg => let ⟨s, hs⟩ := h g hg; ⟨s, hle _ _ hs⟩

structure TR (ng : Nat) (β : Emb) (n : Nat) (D : List Deferred) (T : Tr Value) (a : Act) : Prop where
  val : ∀ t, V β (tget T t) (a.tmps.getD t Go.undef)
  size : a.tmps.size = n
  defers : a.defers = D
  glob : GOK ng β
theorem TR.mono {ng : Nat} {β β' : Emb} {n : Nat} {D : List Deferred} {T : Tr Value} {a : Act} (h : TR ng β n D T a) (hle : EmbLe β β') : TR ng β' n D T a :=
  ⟨fun t => (h.val t).mono hle, h.size, h.defers, h.glob.mono hle⟩
theorem TR.eval {ng : Nat} {β : Emb} {n : Nat} {D : List Deferred} {T : Tr Value} {a : Act} (h : TR ng β n D T a) {x : Operand} (hx : okOpd ng x = true) : V β (deval T x) (a.eval x) := by
  cases x with
  | tmp t => exact h.val t
  | const v => exact plain_V β hx
  | global g =>
    obtain ⟨s, hs⟩ := h.glob g (Nat.le_of_ble_eq_true hx)
    exact V.ptr (bi := ⟨g, 0, s⟩) (o := 0) hs
  | func f => exact V.func' _ (VL.nil β) (VL.nil β)
theorem TR.put {ng : Nat} {β : Emb} {n : Nat} {D : List Deferred} {T : Tr Value} {a : Act} (h : TR ng β n D T a) {dst : Option Tmp} (hd : ∀ d, dst = some d → d < n) {v v' : Value} (hv : V β v v') :
    TR ng β n D (dput dst v T) (a.put dst v') := by
  cases dst with
  | none => exact h
  | some d =>
    have hlt := hd d rfl
    refine ⟨fun t => ?_, by simp [Act.put, h.size], h.defers, h.glob⟩
    simp only [dput, tget_set, Act.put]
    by_cases e : t = d
    · subst e
      rw [if_pos rfl]
      have : (a.tmps.setIfInBounds t v').getD t Go.undef = v' := by simp [Array.getD_eq_getD_getElem?, h.size, hlt]
      rw [this]; exact hv
    · rw [if_neg e]
      have : (a.tmps.setIfInBounds d v').getD t Go.undef = a.tmps.getD t Go.undef := by
        simp only [Array.getD_eq_getD_getElem?]
        rw [Array.getElem?_setIfInBounds_ne (Ne.symm e)]
      rw [this]; exact h.val t

/-! ### Ends -/
inductive DExit : Type where
  | normal | exit (id : Nat) | ret | panic (v : Value) (sure : Bool)
inductive DOut : Type where
  | ret (v : Value) | panic (v : Value)
abbrev Calling := FuncId → List Value → DH → Option (DOut × DH)
abbrev DRes := Option (DExit × Tr Value × DH)

def ERel (β : Emb) : DExit → Exit → Prop
  | .normal, .normal => True
  | .exit i, .exit j => j = i
  | .ret, .ret => True
  | .panic v _, .panic chain => ∃ v', chain = [{ v := v', recovered := false }] ∧ V β v v'
  | _, _ => False
theorem ERel.mono {β β' : Emb} (hle : EmbLe β β') {e : DExit} {e' : Exit} (h : ERel β e e') : ERel β' e e' := by
  cases e <;> cases e' <;> simp only [ERel] at h ⊢ <;> first
    | exact h
    | (obtain ⟨v', h1, h2⟩ := h; exact ⟨v', h1, h2.mono hle⟩)

/-- What is to be true behind a piece of code. -/
def DExit.pan : DExit → Bool
  | .panic _ false => true
  | _ => false
def Post (ng n : Nat) (D : List Deferred) (β : Emb) (H : DH) (w : World) (e : DExit) (T : Tr Value) (H' : DH) : Exit → Act → World → Prop :=
  fun e' a' w' => ∃ β', ERel β' e e' ∧ (e.pan = false → TR ng β' n D T a') ∧ a'.defers = D ∧ R β' H' w' ∧ Ext β H w β' H' w'
theorem Post.trans {ng n : Nat} {D : List Deferred} {β β1 : Emb} {H H1 H' : DH} {w w1 : World} {e : DExit} {T : Tr Value} (hx : Ext β H w β1 H1 w1) {e' : Exit} {a' : Act} {w' : World}
    (h : Post ng n D β1 H1 w1 e T H' e' a' w') : Post ng n D β H w e T H' e' a' w' := by
  obtain ⟨β', h1, h2, h2', h3, h4⟩ := h
  exact ⟨β', h1, h2, h2', h3, hx.trans h4⟩

def OutRel (β : Emb) : DOut → Ending → Prop
  | .ret v, .returned v' => V β v v'
  | .panic v, .panicked chain => ∃ v', chain = [{ v := v', recovered := false }] ∧ V β v v'
  | _, _ => False
def CallOK (P : Program) (ng : Nat) (call : Calling) : Prop :=
  ∀ f args H out H', call f args H = some (out, H') → ∀ β w args', VL β args args' → R β H w → GOK ng β →
    Calls P f ⟨args'⟩ w fun e w' => ∃ β', OutRel β' out e ∧ R β' H' w' ∧ Ext β H w β' H' w'

/-! ### Operations, one behind the other -/
def dwanted (ops : Array Oper) (T : Tr Value) (o : Oper) : Bool :=
  match o.guard with
  | none => true
  | some (j, want) =>
    match ops.toList[j]? with
    | some oj => (match oj.dst with | some t => (match T.get t with | some (.bool b) => b == want | _ => false) | none => false)
    | none => false
def opOk (n ng : Nat) (o : Oper) : Bool :=
  (o.op.operands.toList.all (okOpd ng)) && (match o.dst with | some d => Nat.blt d n | none => true)

/-- One operation. -/
def stepOp (C : Ctx) (call : Calling) (o : Oper) (T : Tr Value) (H : DH) : Option (DOut × DH) :=
  match dop C (deval T) o H with
  | some (.val v, H1) => some (.ret v, H1)
  | some (.skip, H1) => some (.ret undef, H1)
  | some (.panic v, H1) => some (.panic v, H1)
  | some (.enter f args, H1) => call f args H1
  | none => none
def evalOps (C : Ctx) (call : Calling) (ops : Array Oper) : List Oper → Tr Value → DH → DRes
  | [], T, H => some (.normal, T, H)
  | o :: rest, T, H =>
    match dwanted ops T o with
    | false => evalOps C call ops rest (dput o.dst undef T) H
    | true =>
      match stepOp C call o T H with
      | some (.ret v, H1) => evalOps C call ops rest (dput o.dst v T) H1
      | some (.panic v, H1) => some (.panic v true, T, H1)
      | none => none

section
variable {P : Program} {C : Ctx} (hC : CtxOK P C) {ng n : Nat} {D : List Deferred}

theorem wanted_rel {β : Emb} {T : Tr Value} {a : Act} (hT : TR ng β n D T a) (ops : Array Oper) (o : Oper) : Region.wanted o (yielded ops a.tmps) = dwanted ops T o := by
  unfold Region.wanted dwanted
  cases hg : o.guard with
  | none => rfl
  | some p =>
    obtain ⟨j, want⟩ := p
    simp only
    unfold yielded
    have he : ops[j]? = ops.toList[j]? := by rw [Array.getElem?_toList]
    rw [he]
    cases ops.toList[j]? with
    | none => rfl
    | some oj =>
      simp only [Option.bind_some]
      cases oj.dst with
      | none => rfl
      | some t =>
        simp only [Option.bind_some]
        have hv := hT.val t
        have hgd : a.tmps.getD t Go.undef = (a.tmps[t]?).getD Go.undef := by simp [Array.getD_eq_getD_getElem?]
        rw [hgd] at hv
        unfold tget at hv
        cases hT2 : T.get t with
        | none =>
          rw [hT2] at hv
          cases ha : a.tmps[t]? with
          | none => rfl
          | some x =>
            rw [ha] at hv
            simp only [Option.getD_some] at hv
            obtain ⟨ys, hy, _⟩ := V.tuple_inv hv
            rw [hy]; rfl
        | some v =>
          rw [hT2] at hv
          cases ha : a.tmps[t]? with
          | none =>
            rw [ha] at hv
            simp only [Option.getD_none] at hv
            cases v <;> cases hv <;> rfl
          | some x =>
            rw [ha] at hv
            simp only [Option.getD_some] at hv
            cases hv <;> simp

include hC
/-- One operation, in the model. -/
theorem stepOp_sound {call : Calling} (hcall : CallOK P ng call) {β : Emb} {H H1 : DH} {w : World} {T : Tr Value} {a : Act} (hG : GOK ng β) (hR : R β H w) {o : Oper} (hops : ∀ x ∈ o.op.operands.toList, V β (deval T x) (a.eval x)) {out : DOut} (h : stepOp C call o T H = some (out, H1))
    {K : Act → World → Prop} {Q : Exit → Act → World → Prop}
    (hret : ∀ v v' w' β', out = .ret v → V β' v v' → R β' H1 w' → Ext β H w β' H1 w' → K (a.put o.dst v') w')
    (hpan : ∀ v v' w' β', out = .panic v → V β' v v' → R β' H1 w' → Ext β H w β' H1 w' → Q (.panic [{ v := v', recovered := false }]) a w') :
    o.wp P a w K Q := by
  unfold stepOp at h
  have main : ∀ dr H2, dop C (deval T) o H = some (dr, H2) → ∃ w' β', OpRes β' dr ((execOp a.eval o).run P w) w' ∧ R β' H2 w' ∧ Ext β H w β' H2 w' :=
    fun dr H2 hd => dop_sound hC hd hops hR
  unfold Oper.wp
  split at h
  · rename_i v H2 hd
    cases h
    obtain ⟨w', β', ⟨v', hr, hv⟩, h2, h3⟩ := main _ _ hd
    rw [hr]
    exact hret v v' w' β' rfl hv h2 h3
  · rename_i H2 hd
    cases h
    obtain ⟨w', β', hr, h2, h3⟩ := main _ _ hd
    simp only [OpRes] at hr
    rw [hr]
    exact hret _ _ w' β' rfl (V.undef β') h2 h3
  · rename_i v H2 hd
    cases h
    obtain ⟨w', β', ⟨v', hr, hv⟩, h2, h3⟩ := main _ _ hd
    rw [hr]
    exact hpan v v' w' β' rfl hv h2 h3
  · rename_i f args H2 hd
    obtain ⟨w', β', ⟨args', hr, hv⟩, h2, h3⟩ := main _ _ hd
    rw [hr]
    refine (hcall f args H2 out H1 h β' w' args' hv h2 (hG.mono h3.sub)).mono ?_
    intro e w2 he
    obtain ⟨β2, ho, r1, r2⟩ := he
    cases out with
    | ret v =>
      cases e with
      | returned v' => exact hret v v' w2 β2 rfl ho r1 (h3.trans r2)
      | panicked _ => exact ho.elim
      | outgrown => exact ho.elim
    | panic v =>
      cases e with
      | returned v' => exact ho.elim
      | panicked chain =>
        obtain ⟨v', rfl, hvv⟩ := ho
        exact hpan v v' w2 β2 rfl hvv r1 (h3.trans r2)
      | outgrown => exact ho.elim
  · cases h

theorem evalOps_sound {call : Calling} (hcall : CallOK P ng call) (ops : Array Oper) : ∀ (l : List Oper) (T : Tr Value) (H : DH) (e : DExit) (T' : Tr Value) (H' : DH), l.all (opOk n ng) = true → evalOps C call ops l T H = some (e, T', H') →
    ∀ β w a, TR ng β n D T a → R β H w → wpList P ops (Post ng n D β H w e T' H') l a w := by
  intro l
  induction l with
  | nil =>
    intro T H e T' H' _ h β w a hT hR
    simp only [evalOps, Option.some.injEq, Prod.mk.injEq] at h
    obtain ⟨rfl, rfl, rfl⟩ := h
    exact ⟨β, trivial, fun _ => hT, hT.defers, hR, Ext.refl _ _ _⟩
  | cons o rest ih =>
    intro T H e T' H' hall h β w a hT hR
    simp only [List.all_cons, Bool.and_eq_true] at hall
    have hdst : ∀ d, o.dst = some d → d < n := by
      intro d hd
      have := hall.1
      simp only [opOk, hd, Bool.and_eq_true] at this
      exact Nat.le_of_ble_eq_true this.2
    unfold evalOps at h
    unfold wpList
    rw [wanted_rel hT ops o]
    cases hw : dwanted ops T o with
    | false =>
      rw [hw] at h
      simp only [Bool.false_eq_true, if_false]
      exact ih _ _ e T' H' hall.2 h β w _ (hT.put hdst (V.undef β)) hR
    | true =>
      rw [hw] at h
      simp only [if_true]
      refine .inl ?_
      cases hs : stepOp C call o T H with
      | none => simp [hs] at h
      | some p =>
        obtain ⟨out, H1⟩ := p
        rw [hs] at h
        have hok := hall.1
        simp only [opOk, Bool.and_eq_true, List.all_eq_true] at hok
        refine stepOp_sound hC hcall hT.glob hR (fun x hx => hT.eval (hok.1 x hx)) hs ?_ ?_
        · intro v v' w' β' ho hv h2 h3
          subst ho
          simp only at h
          have := ih _ _ e T' H' hall.2 h β' w' _ ((hT.mono h3.sub).put hdst hv) h2
          have hmono : ∀ (l : List Oper) (a : Act) (w : World) (Q Q' : Exit → Act → World → Prop), (∀ e a w, Q e a w → Q' e a w) → wpList P ops Q l a w → wpList P ops Q' l a w := by
            intro l
            induction l with
            | nil => intro a w Q Q' hq h; exact hq _ _ _ h
            | cons o l ihl =>
              intro a w Q Q' hq h
              unfold wpList at h ⊢
              split
              · rename_i hc
                rw [if_pos hc] at h
                rcases h with h | ⟨h1, h2⟩
                · refine .inl ?_
                  unfold Oper.wp Oper.upon at h ⊢
                  split at h
                  · exact ihl _ _ _ _ hq h
                  · exact ihl _ _ _ _ hq h
                  · exact ihl _ _ _ _ hq h
                  · refine Calls.mono h fun e w'' he => ?_
                    cases e with
                    | returned v => exact ihl _ _ _ _ hq he
                    | panicked c => exact hq _ _ _ he
                    | outgrown => obtain ⟨a0, w0, h0⟩ := he; exact ⟨a0, w0, hq _ _ _ h0⟩
                  · exact Rows.mono h fun v w'' he => ihl _ _ _ _ hq he
                  · exact hq _ _ _ h
                  · exact h.elim
                · obtain ⟨a0, w0, h0⟩ := h2
                  exact .inr ⟨h1, a0, w0, hq _ _ _ h0⟩
              · rename_i hc
                rw [if_neg hc] at h
                exact ihl _ _ _ _ hq h
          exact hmono _ _ _ _ _ (fun e a w h => Post.trans h3 h) this
        · intro v v' w' β' ho hv h2 h3
          subst ho
          simp only [Option.some.injEq, Prod.mk.injEq] at h
          obtain ⟨rfl, rfl, rfl⟩ := h
          exact ⟨β', ⟨v', rfl, hv⟩, fun _ => hT.mono h3.sub, hT.defers, h2, h3⟩
end
end
end Go.Ds
