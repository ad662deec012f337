/- A deterministic layer over the model, part S: a function that defers one function literal; recovery; functions without a body. -/
import Derived.Test.YtnlnbhcjgacgmaaGreatDoorDsR
import Derived.Recover
set_option linter.unusedVariables false
set_option linter.unusedSimpArgs false
namespace Go.Ds
noncomputable section

abbrev Dfr := Option (FuncId × List Value)
def deferOf (o : Oper) : Option Operand :=
  match o.op with
  | .defer c =>
    match c.callee, c.args.toList with
    | .value f, [] => some f
    | _, _ => none
  | _ => none
/-- 'defer' of a function literal: the operation ahead, what is deferred. -/
def deferRegion : Code → Option (Oper × Operand × Array Oper)
  | .region _ ops false =>
    match ops.toList with
    | [o, o2] => match deferOf o2, o2.dst, o2.guard with | some f, none, none => some (o, f, ops) | _, _, _ => none
    | _ => none
  | _ => none
abbrev DResD := Option (DExit × Tr Value × DH × Dfr)
def noD (r : DRes) : DResD :=
  match r with
  | some (e, T, H) => some (e, T, H, none)
  | none => none
def withD (d : FuncId × List Value) (r : DRes) : DResD :=
  match r with
  | some (e, T, H) => some (e, T, H, some d)
  | none => none
/-- A body that defers once, on its way down. -/
def evalD (C : Ctx) (call : Calling) (dr : Draws) (fuel : Nat) : Code → Tr Value → DH → DResD
  | .seq a b, T, H =>
    match deferRegion a with
    | some (o, f, ops) =>
      match evalOps C call ops [o] T H with
      | some (.normal, T1, H1) =>
        match deval T1 f with
        | .func (.func g) first cap => match first.toList with | [] => withD (g, cap.toList) (evalCode C call dr fuel b T1 H1) | _ => none
        | _ => none
      | _ => none
    | none =>
      match evalCode C call dr fuel a T H with
      | some (.normal, T1, H1) => evalD C call dr fuel b T1 H1
      | r => noD r
  | c, T, H => noD (evalCode C call dr fuel c T H)
/-- The deferred function: 'recover' is its first word. -/
def isRecover (o : Oper) : Bool :=
  match o.op, o.guard with
  | .call c, none => match c.callee with | .builtin .recover => true | _ => false
  | _, _ => false
def callR (C : Ctx) (call : Calling) (dr : Draws) (fuel : Nat) (fn : Func) (cap : List Value) (rv : Value) (H : DH) : Option DH :=
  match fn.body with
  | some (.seq (.region _ ops false) rest) =>
    match ops.toList, Nat.ble cap.length fn.ntmps with
    | o :: os, true =>
      if isRecover o then
        match evalOps C call ops os (dput o.dst rv (Tr.ofList cap 0 .nil)) H with
        | some (.normal, T, H1) =>
          match evalCode C call dr fuel rest T H1 with
          | some (.normal, T2, H2) => match dresults C T2 H2 fn.results.toList with | some _ => some H2 | none => none
          | some (.ret, T2, H2) => match dresults C T2 H2 fn.results.toList with | some _ => some H2 | none => none
          | _ => none
        | _ => none
      else none
    | _, _ => none
  | _ => none
def callFD (C : Ctx) (call : Calling) (dr : Nat → Draws) (fuel : Nat) (f : FuncId) (fn : Func) (args : List Value) (H : DH) : Option (DOut × DH) :=
  match fn.body, Nat.ble args.length fn.ntmps with
  | some c, true =>
    match evalD C call (dr f) fuel c (Tr.ofList args 0 .nil) H with
    | none => none
    | some (e, T, H1, d) =>
      match d, e with
      | none, .normal => match dresults C T H1 fn.results.toList with | some vs => some (.ret (dtup vs), H1) | none => none
      | none, .ret => match dresults C T H1 fn.results.toList with | some vs => some (.ret (dtup vs), H1) | none => none
      | none, .panic v _ => some (.panic v, H1)
      | some (g, cap), e =>
        match C.fn.get g with
        | none => none
        | some gn =>
          match (match e with | .normal => some Value.nilIface | .ret => some Value.nilIface | .panic v true => some v | _ => none) with
          | none => none
          | some rv =>
            match callR C call (dr g) fuel gn cap rv H1 with
            | none => none
            | some H2 => match dresults C T H2 fn.results.toList with | some vs => some (.ret (dtup vs), H2) | none => none
      | _, _ => none
  | _, _ => none
/-- Calls, d deep; those of the list defer. -/
def callM (C : Ctx) (dr : Nat → Draws) (dl : List Nat) (fuel : Nat) (base : Calling) : Nat → Calling
  | 0 => base
  | d + 1 => fun f args H =>
    match base f args H with
    | some r => some r
    | none =>
      match C.fn.get f with
      | some fn =>
        match dl.any (Nat.beq f) with
        | true => callFD C (callM C dr dl fuel base d) dr fuel f fn args H
        | false => callF C (callM C dr dl fuel base d) (dr f) fuel fn args H
      | none => none

section
variable {P : Program} {C : Ctx} (hC : CtxOK P C) {ng n : Nat}
/-- What is deferred, in the model. -/
def DfrRel (β : Emb) : Dfr → List Deferred → Prop
  | none, D => D = []
  | some (g, cap), D => ∃ cap' : List Value, D = [{ target := .fn (.func g) ⟨cap'⟩, args := #[] }] ∧ VL β cap cap'
def PostD (ng n : Nat) (β : Emb) (H : DH) (w : World) (e : DExit) (T : Tr Value) (H' : DH) (d : Dfr) : Exit → Act → World → Prop :=
  fun e' a' w' => ∃ β' D, ERel β' e e' ∧ (e.pan = false → TR ng β' n D T a') ∧ a'.defers = D ∧ DfrRel β' d D ∧ R β' H' w' ∧ Ext β H w β' H' w'
theorem PostD.trans {β β1 : Emb} {H H1 H' : DH} {w w1 : World} {e : DExit} {T : Tr Value} {d : Dfr} (hx : Ext β H w β1 H1 w1) {e' : Exit} {a' : Act} {w' : World}
    (h : PostD ng n β1 H1 w1 e T H' d e' a' w') : PostD ng n β H w e T H' d e' a' w' := by
  obtain ⟨β', D, h1, h2, h2', h3, h4, h5⟩ := h
  exact ⟨β', D, h1, h2, h2', h3, h4, hx.trans h5⟩
theorem Post.toD {β : Emb} {H : DH} {w : World} {e : DExit} {T : Tr Value} {H' : DH} {e' : Exit} {a' : Act} {w' : World} (h : Post ng n [] β H w e T H' e' a' w') : PostD ng n β H w e T H' none e' a' w' := by
  obtain ⟨β', h1, h2, h3, h4, h5⟩ := h
  exact ⟨β', [], h1, h2, h3, rfl, h4, h5⟩

theorem deferRegion_spec {c : Code} {o : Oper} {f : Operand} {ops : Array Oper} (h : deferRegion c = some (o, f, ops)) :
    ∃ id o2 ct ty ps af, c = .region id ops false ∧ ops.toList = [o, o2] ∧ o2 = { dst := none, op := .defer { callee := .value f, args := #[], argTypes := ct }, type := ty, pos := ps, after := af, guard := none } := by
  unfold deferRegion at h
  split at h
  · rename_i id ops
    split at h
    · rename_i o1 o2 hops
      split at h
      · rename_i f' hf hd hg
        cases h
        obtain ⟨dst, op, ty, ps, af, gd⟩ := o2
        simp only at hd hg
        subst hd; subst hg
        unfold deferOf at hf
        split at hf
        · rename_i c hop
          obtain ⟨callee, args, ct⟩ := c
          split at hf
          · rename_i f2 hcal hargs
            cases hf
            simp only at hcal hargs hop
            subst hcal
            have ha : args = #[] := by apply Array.ext'; simpa using hargs
            subst ha
            subst hop
            exact ⟨id, _, ct, ty, ps, af, rfl, hops, rfl⟩
          · cases hf
        · cases hf
      · cases h
    · cases h
  · cases h

theorem wpList_app {ops : Array Oper} {Q Q' : Exit → Act → World → Prop} (hq : ∀ e a w, e ≠ .normal → Q' e a w → Q e a w) {l2 : List Oper} (h2 : ∀ a w, Q' .normal a w → wpList P ops Q l2 a w) :
    ∀ (l : List Oper) (a : Act) (w : World), wpList P ops Q' l a w → wpList P ops Q (l ++ l2) a w := by
  intro l
  induction l with
  | nil => intro a w h; exact h2 _ _ h
  | cons o l ihl =>
    intro a w h
    rw [List.cons_append]
    unfold wpList at h ⊢
    split
    · rename_i hc
      rw [if_pos hc] at h
      rcases h with h | ⟨h1, h2⟩
      · refine .inl ?_
        unfold Oper.wp Oper.upon at h ⊢
        split at h
        · exact ihl _ _ h
        · exact ihl _ _ h
        · exact ihl _ _ h
        · refine Calls.mono h fun e w'' he => ?_
          cases e with
          | returned v => exact ihl _ _ he
          | panicked c => exact hq _ _ _ (by simp) he
          | outgrown => obtain ⟨a0, w0, h0⟩ := he; exact ⟨a0, w0, hq _ _ _ (by simp) h0⟩
        · exact Rows.mono h fun v w'' he => ihl _ _ he
        · exact hq _ _ _ (by simp) h
        · exact h.elim
      · obtain ⟨a0, w0, h0⟩ := h2
        exact .inr ⟨h1, a0, w0, hq _ _ _ (by simp) h0⟩
    · rename_i hc
      rw [if_neg hc] at h
      exact ihl _ _ h
theorem PostD.of_D {g : FuncId} {cap cap' : List Value} {β : Emb} {H : DH} {w : World} {e : DExit} {T : Tr Value} {H' : DH} {e' : Exit} {a' : Act} {w' : World}
    (h : Post ng n [{ target := .fn (.func g) ⟨cap'⟩, args := #[] }] β H w e T H' e' a' w') (hv : VL β cap cap') : PostD ng n β H w e T H' (some (g, cap)) e' a' w' := by
  obtain ⟨β', h1, h2, h3, h4, h5⟩ := h
  exact ⟨β', _, h1, h2, h3, ⟨cap', rfl, hv.mono h5.sub⟩, h4, h5⟩

include hC
theorem evalD_sound (hm : P.follows .mixedOrders = true) {call : Calling} (hcall : CallOK P ng call) (dr : Draws) (fuel : Nat) : ∀ (c : Code) (T : Tr Value) (H : DH) (e : DExit) (T' : Tr Value) (H' : DH) (d : Dfr),
    codeOk n ng dr c = true → evalD C call dr fuel c T H = some (e, T', H', d) → ∀ β w a, TR ng β n [] T a → R β H w → c.wp P (PostD ng n β H w e T' H' d) a w := by
  have base : ∀ (c : Code) (T : Tr Value) (H : DH) (e : DExit) (T' : Tr Value) (H' : DH) (d : Dfr), codeOk n ng dr c = true → noD (evalCode C call dr fuel c T H) = some (e, T', H', d) → ∀ β w a, TR ng β n [] T a → R β H w → c.wp P (PostD ng n β H w e T' H' d) a w := by
    intro c T H e T' H' d hok h β w a hT hR
    cases hx : evalCode C call dr fuel c T H with
    | none => rw [hx] at h; cases h
    | some r =>
      obtain ⟨e1, T1, H1⟩ := r
      rw [hx] at h
      simp only [noD, Option.some.injEq, Prod.mk.injEq] at h
      obtain ⟨rfl, rfl, rfl, rfl⟩ := h
      exact wp_mono (evalCode_sound hC hm hcall dr fuel c T H _ _ _ hok hx β w a hT hR) fun _ _ _ hp => hp.toD
  intro c
  induction c with
  | seq x y ihx ihy =>
    intro T H e T' H' d hok h β w a hT hR
    have hok0 := hok
    simp only [codeOk, Bool.and_eq_true] at hok
    simp only [evalD] at h
    cases hdr : deferRegion x with
    | none =>
      rw [hdr] at h
      simp only at h
      refine wp_seq ?_
      cases hx : evalCode C call dr fuel x T H with
      | none => rw [hx] at h; cases h
      | some r =>
        obtain ⟨e1, T1, H1⟩ := r
        have hxs := evalCode_sound hC hm hcall dr fuel x T H e1 T1 H1 hok.1 hx β w a hT hR
        rw [hx] at h
        by_cases hn : e1 = .normal
        · subst hn
          simp only at h
          refine wp_mono hxs fun e' a' w' hp => ?_
          obtain ⟨rfl, β', h1, h2, h3⟩ := hp.normal
          exact wp_mono (ihy T1 H1 e T' H' d hok.2 h β' w' a' h1 h2) fun _ _ _ hq => PostD.trans h3 hq
        · have he : e = e1 ∧ T' = T1 ∧ H' = H1 ∧ d = none := by
            cases e1 <;> first | exact absurd rfl hn | (cases h; exact ⟨rfl, rfl, rfl, rfl⟩)
          obtain ⟨rfl, rfl, rfl, rfl⟩ := he
          refine wp_mono hxs fun e' a' w' hp => ?_
          have h0 := hp.toD
          obtain ⟨β', h1, -⟩ := hp
          cases e <;> cases e' <;> simp only [ERel] at h1 <;> first | exact absurd rfl hn | exact h0
    | some of' =>
      obtain ⟨o, f, ops⟩ := of'
      rw [hdr] at h
      simp only at h
      obtain ⟨id, o2, ct, ty, ps, af, rfl, hops, rfl⟩ := deferRegion_spec hdr
      have hok1 : ops.toList.all (opOk n ng) = true := hok.1
      rw [hops] at hok1
      simp only [List.all_cons, Bool.and_eq_true, List.all_nil, Bool.and_true] at hok1
      refine wp_seq (wp_region_list ?_)
      rw [hops]
      cases hx : evalOps C call ops [o] T H with
      | none => rw [hx] at h; cases h
      | some r =>
        obtain ⟨e1, T1, H1⟩ := r
        rw [hx] at h
        have hs := evalOps_sound hC hcall ops [o] T H e1 T1 H1 (by simp [hok1.1]) hx β w a hT hR
        cases e1 with
        | exit _ => cases h
        | ret => cases h
        | panic _ _ => cases h
        | normal =>
          simp only at h
          refine wpList_app (l2 := [_]) (fun e' a' w' hne hp => ?_) (fun a' w' hp => ?_) [o] a w hs
          · obtain ⟨rfl, -⟩ := hp.normal
            exact absurd rfl hne
          · obtain ⟨-, β', h1, h2, h3⟩ := hp.normal
            split at h
            · rename_i g first cap hf
              split at h
              · rename_i hfirst
                have hfv := h1.eval (x := f) (by
                  have := hok1.2
                  simp only [opOk, Op.operands, Call.operands, Bool.and_eq_true, List.all_eq_true] at this
                  exact this.1 f (by simp))
                rw [hf] at hfv
                obtain ⟨first', cap', hf2, v1, v2⟩ := hfv.func_inv
                have hfe : first' = #[] := by
                  have := v1.1
                  rw [hfirst] at this
                  apply Array.ext'
                  exact List.eq_nil_of_length_eq_zero this.symm
                subst hfe
                unfold wpList
                simp only [Region.wanted, if_true]
                refine .inl ?_
                unfold Oper.wp
                simp only [execOp, resolve, hf2, Deferred.ofValue, Sem.run_bind, Sem.run_pure, Result.andThen_ok, Oper.upon, wpList]
                simp only [Exit.then]
                cases hy : evalCode C call dr fuel y T1 H1 with
                | none => rw [hy] at h; cases h
                | some r =>
                  obtain ⟨e2, T2, H2⟩ := r
                  rw [hy] at h
                  simp only [withD, Option.some.injEq, Prod.mk.injEq] at h
                  obtain ⟨rfl, rfl, rfl, rfl⟩ := h
                  have hTD : TR ng β' n [{ target := .fn (.func g) ⟨cap'.toList⟩, args := #[] }] T1 ({ a' with defers := { target := .fn (.func g) cap', args := #[] ++ Array.map a'.eval #[] } :: a'.defers }.put none undef) := by
                    refine ⟨h1.val, h1.size, ?_, h1.glob⟩
                    simp [Act.put, h1.defers]
                  exact wp_mono (evalCode_sound hC hm hcall dr fuel y T1 H1 _ _ _ hok.2 hy β' w' _ hTD h2) fun _ _ _ hq => PostD.trans h3 (PostD.of_D hq v2)
              · cases h
            · cases h
  | _ => intro T H e T' H' d hok h; simp only [evalD] at h; exact base _ T H e T' H' d hok h
end

/-! ### Functions without a body -/
def findB : List UInt8 → Nat → Nat → Option Nat
  | [], _, _ => none
  | b :: r, c, i => match Nat.beq b.toNat c with | true => some i | false => findB r c (i + 1)
def countB : List UInt8 → Nat → Nat → Nat
  | [], _, n => n
  | b :: r, c, n => match Nat.beq b.toNat c with | true => countB r c (n + 1) | false => countB r c n
def xNoEscape : List Value → Option Value
  | [.pointer p] => some (.pointer p)
  | _ => none
def xIndexByteString : List Value → Option Value
  | [.string s, .int .u8 c] =>
    if 0 ≤ c ∧ c < 256 then
      match findB s.data.toList c.toNat 0 with
      | some i => some (.int .i64 i)
      | none => some (.int .i64 (-1))
    else none
  | _ => none
def xCountString : List Value → Option Value
  | [.string s, .int .u8 c] => if 0 ≤ c ∧ c < 256 then some (.int .i64 (countB s.data.toList c.toNat 0 : Nat)) else none
  | _ => none
end
end Go.Ds
