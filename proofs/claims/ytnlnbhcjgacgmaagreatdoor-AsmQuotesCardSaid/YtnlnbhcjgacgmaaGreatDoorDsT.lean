/- A deterministic layer over the model, part T: a function that defers one function literal, sound; calls. -/
import Derived.Test.YtnlnbhcjgacgmaaGreatDoorDsS
set_option linter.unusedVariables false
set_option linter.unusedSimpArgs false
namespace Go.Ds
noncomputable section
section
variable {P : Program} {C : Ctx} (hC : CtxOK P C) {ng n : Nat} {D : List Deferred}
include hC
theorem evalOps_soundS {call : Calling} (hcall : CallOK P ng call) (ops : Array Oper) (cs : List Frame) : ∀ (l : List Oper) (k : Nat), (∀ j, l[j]? = ops[k + j]?) → ∀ (T : Tr Value) (H : DH) (e : DExit) (T' : Tr Value) (H' : DH), l.all (opOk n ng) = true → evalOps C call ops l T H = some (e, T', H') →
    ∀ β w a, TR ng β n D T a → R β H w → ∀ Q : Exit → Act → List Frame → World → Prop, (∀ e' a' w', Post ng n D β H w e T' H' e' a' w' → Q e' a' cs w') → wpOpsS P ops Q (List.range' k l.length) a cs w := by
  intro l
  induction l with
  | nil =>
    intro k _ T H e T' H' _ h β w a hT hR Q hQ
    simp only [evalOps, Option.some.injEq, Prod.mk.injEq] at h
    obtain ⟨rfl, rfl, rfl⟩ := h
    simp only [List.length_nil, List.range'_zero, wpOpsS]
    exact hQ _ _ _ ⟨β, trivial, fun _ => hT, hT.defers, hR, Ext.refl _ _ _⟩
  | cons o rest ih =>
    intro k hk T H e T' H' hall h β w a hT hR Q hQ
    have h0 : ops[k]? = some o := by simpa using (hk 0).symm
    have hk' : ∀ j, rest[j]? = ops[k + 1 + j]? := fun j => by have := hk (j + 1); simpa [Nat.add_assoc, Nat.add_comm 1 j] using this
    simp only [List.all_cons, Bool.and_eq_true] at hall
    have hdst : ∀ d, o.dst = some d → d < n := by
      intro d hd
      have := hall.1
      simp only [opOk, hd, Bool.and_eq_true] at this
      exact Nat.le_of_ble_eq_true this.2
    unfold evalOps at h
    rw [List.length_cons, List.range'_succ]
    simp only [wpOpsS, h0]
    rw [wanted_rel hT ops o]
    cases hw : dwanted ops T o with
    | false =>
      rw [hw] at h
      simp only [Bool.false_eq_true, if_false]
      exact ih _ hk' _ _ e T' H' hall.2 h β w _ (hT.put hdst (V.undef β)) hR Q hQ
    | true =>
      rw [hw] at h
      simp only [if_true]
      cases hs : stepOp C call o T H with
      | none => simp [hs] at h
      | some p =>
        obtain ⟨out, H1⟩ := p
        rw [hs] at h
        have hok := hall.1
        simp only [opOk, Bool.and_eq_true, List.all_eq_true] at hok
        have hwp : o.wp P a w (fun a' w' => wpOpsS P ops Q (List.range' (k + 1) rest.length) a' cs w') (fun e a' w' => Q e a' cs w') := by
          refine stepOp_sound hC hcall hT.glob hR (fun x hx => hT.eval (hok.1 x hx)) hs ?_ ?_
          · intro v v' w' β' ho hv h2 h3
            subst ho
            simp only at h
            exact ih _ hk' _ _ e T' H' hall.2 h β' w' _ ((hT.mono h3.sub).put hdst hv) h2 Q fun e' a' w'' hp => hQ _ _ _ (Post.trans h3 hp)
          · intro v v' w' β' ho hv h2 h3
            subst ho
            simp only [Option.some.injEq, Prod.mk.injEq] at h
            obtain ⟨rfl, rfl, rfl⟩ := h
            exact hQ _ _ _ ⟨β', ⟨v', rfl, hv⟩, fun _ => hT.mono h3.sub, hT.defers, h2, h3⟩
        unfold Oper.wp at hwp
        generalize (execOp a.eval o).run P w = r at hwp ⊢
        split
        · exact hwp.elim
        · exact hwp

theorem callR_sound (hm : P.follows .mixedOrders = true) {call : Calling} (hcall : CallOK P ng call) {dr : Draws} {fuel : Nat} {g : FuncId} {gn : Func} (hf : P.funcs[g]? = some gn) {c : Code} (hb : gn.body = some c) (hok : codeOk gn.ntmps ng dr c = true)
    {cap : List Value} {rv : Value} {H H2 : DH} (h : callR C call dr fuel gn cap rv H = some H2) {β : Emb} {w : World} {cap' : List Value} (hcap : VL β cap cap') (hR : R β H w) (hG : GOK ng β) {u u' : FrameMode} {rv' : Value} (hrv : V β rv rv')
    (hrec : ∀ (c₀ : Frame) (cs : List Frame), c₀.mode = u → (recoverD (c₀ :: cs) = some (rv', { c₀ with mode := u' } :: cs)) ∨ (recoverD (c₀ :: cs) = none ∧ rv' = .nilIface ∧ u' = u)) :
    CallsD P g ⟨cap'⟩ u w fun e u2 w' => ∃ β', (∃ v, e = .returned v) ∧ u2 = u' ∧ R β' H2 w' ∧ Ext β H w β' H2 w' := by
  unfold callR at h
  rw [hb] at h
  split at h
  · rename_i id ops rest hc
    cases hc
    split at h
    · rename_i o os hops hn
      have hn := Nat.le_of_ble_eq_true hn
      split at h
      · rename_i hir
        refine callsD_of_wpS hf hb fun c₀ cs hu => ?_
        simp only [codeOk, Bool.and_eq_true] at hok
        obtain ⟨hok1, hok2⟩ := hok
        rw [hops] at hok1
        simp only [List.all_cons, Bool.and_eq_true] at hok1
        have hsz : ops.size = os.length + 1 := by rw [← Array.length_toList, hops]; rfl
        have hget : ∀ j, os[j]? = ops[1 + j]? := fun j => by
          have : (ops.toList)[1 + j]? = ops[1 + j]? := by simp
          rw [← this, hops, Nat.add_comm]; simp
        have h0 : ops[0]? = some o := by
          have : (ops.toList)[0]? = ops[0]? := by simp
          rw [← this, hops]; rfl
        have hT := TR.enter hC hcap hG hn
        have hdst : ∀ d, o.dst = some d → d < gn.ntmps := by
          intro d hd
          have := hok1.1
          simp only [opOk, hd, Bool.and_eq_true] at this
          exact Nat.le_of_ble_eq_true this.2
        have hTp := hT.put hdst hrv
        have hrun : ∀ (ρ : Operand → Value), (execOp ρ o).run P w = .ok .recover w := by
          intro ρ
          unfold isRecover at hir
          split at hir
          · rename_i cc hop hgd
            split at hir
            · rename_i hcal
              simp [execOp, hop, resolve, hcal, invoke, builtin]
            · cases hir
          · cases hir
        have hgd : o.guard = none := by
          unfold isRecover at hir
          split at hir
          · assumption
          · cases hir
        -- what follows the recovery
        have main : ∀ (cs' : List Frame), cs' = { c₀ with mode := u' } :: cs →
            wpOpsS P ops (Exit.thenS (rest.wpS P (bodyPostS P gn c₀ cs fun e u2 w' => ∃ β', (∃ v, e = .returned v) ∧ u2 = u' ∧ R β' H2 w' ∧ Ext β H w β' H2 w')) (bodyPostS P gn c₀ cs fun e u2 w' => ∃ β', (∃ v, e = .returned v) ∧ u2 = u' ∧ R β' H2 w' ∧ Ext β H w β' H2 w')) (List.range' 1 os.length)
              (({ tmps := (⟨cap'⟩ : Array Value) ++ Array.replicate (gn.ntmps - cap'.length) Go.undef, defers := [] } : Act).put o.dst rv') cs' w := by
          intro cs' hcs
          cases hx : evalOps C call ops os (dput o.dst rv (Tr.ofList cap 0 .nil)) H with
          | none => rw [hx] at h; cases h
          | some r =>
            obtain ⟨e1, T1, H1⟩ := r
            rw [hx] at h
            cases e1 with
            | exit _ => cases h
            | ret => cases h
            | panic _ _ => cases h
            | normal =>
              simp only at h
              refine evalOps_soundS hC hcall ops cs' os 1 hget _ _ _ _ _ hok1.2 hx β w _ hTp hR _ fun e' a' w' hp => ?_
              obtain ⟨rfl, β', h1, h2, h3⟩ := hp.normal
              simp only [Exit.thenS]
              refine wpS_of_wp ?_
              cases hy : evalCode C call dr fuel rest T1 H1 with
              | none => rw [hy] at h; cases h
              | some r =>
                obtain ⟨e2, T2, H3⟩ := r
                rw [hy] at h
                refine wp_mono (evalCode_sound hC hm hcall dr fuel rest T1 H1 e2 T2 H3 hok2 hy β' w' a' h1 h2) fun e3 a3 w3 hp3 => ?_
                obtain ⟨β3, k1, k2, k3, k4, k5⟩ := hp3
                have fin : e2.pan = false → (match dresults C T2 H3 gn.results.toList with | some _ => some H3 | none => none) = some H2 →
                    a3.defers = [] ∧ ∃ u2, cs' = { c₀ with mode := u2 } :: cs ∧ ∃ v, (results gn a3.tmps).run P w3 = .ok v w3 ∧ ∃ β', (∃ v', Ending.returned v = .returned v') ∧ u2 = u' ∧ R β' H2 w3 ∧ Ext β H w β' H2 w3 := by
                  intro hpan h
                  cases hr : dresults C T2 H3 gn.results.toList with
                  | none => rw [hr] at h; cases h
                  | some vs =>
                    rw [hr] at h
                    cases h
                    obtain ⟨v', hv1, hv2⟩ := results_sound hC (k2 hpan) k4 gn hr
                    exact ⟨k3, u', hcs, v', hv1, β3, ⟨v', rfl⟩, rfl, k4, h3.trans k5⟩
                cases e2 with
                | normal => cases e3 <;> simp only [ERel] at k1; exact fin rfl h
                | ret => cases e3 <;> simp only [ERel] at k1; exact fin rfl h
                | exit i => cases h
                | panic v b => cases h
        refine wpS_seq (wpS_region ?_)
        rw [hsz, List.range_eq_range', List.range'_succ]
        simp only [wpOpsS, h0, Region.wanted, hgd, if_true, hrun]
        rcases hrec c₀ cs hu with hr | ⟨hr, e1, e2⟩
        · rw [hr]
          exact main _ rfl
        · rw [hr]
          subst e1 e2
          have := main (c₀ :: cs) (by subst hu; rfl)
          exact this
      · cases h
    · cases h
  · cases h

theorem callFD_sound (hm : P.follows .mixedOrders = true) {dr : Nat → Draws} (hF : FnsOK C ng dr) {call : Calling} (hcall : CallOK P ng call) {fuel : Nat} {f : FuncId} {fn : Func} (hf : P.funcs[f]? = some fn) {c : Code} (hb : fn.body = some c) (hok : codeOk fn.ntmps ng (dr f) c = true)
    {args : List Value} {H : DH} {out : DOut} {H' : DH} (h : callFD C call dr fuel f fn args H = some (out, H')) {β : Emb} {w : World} {args' : List Value} (hargs : VL β args args') (hR : R β H w) (hG : GOK ng β) :
    Calls P f ⟨args'⟩ w fun e w' => ∃ β', OutRel β' out e ∧ R β' H' w' ∧ Ext β H w β' H' w' := by
  unfold callFD at h
  rw [hb] at h
  cases hn : Nat.ble args.length fn.ntmps with
  | false => rw [hn] at h; cases h
  | true =>
    rw [hn] at h
    simp only at h
    have hn := Nat.le_of_ble_eq_true hn
    refine calls_of_wp_defers hf hb ?_
    have hT := TR.enter hC hargs hG hn
    cases hx : evalD C call (dr f) fuel c (Tr.ofList args 0 .nil) H with
    | none => rw [hx] at h; cases h
    | some r =>
      obtain ⟨e1, T1, H1, d⟩ := r
      have hs := evalD_sound hC hm hcall (dr f) fuel c _ _ e1 T1 H1 d hok hx β w _ hT hR
      rw [hx] at h
      refine wp_mono hs fun e' a' w' hp => ?_
      obtain ⟨β', D, h1, h2, h3, hD, h4, h5⟩ := hp
      cases d with
      | none =>
        have hD : D = [] := hD
        subst hD
        have fin : e1.pan = false → (match dresults C T1 H1 fn.results.toList with | some vs => some (DOut.ret (dtup vs), H1) | none => none) = some (out, H') → Leaves P fn a'.tmps (fun e w' => ∃ β', OutRel β' out e ∧ R β' H' w' ∧ Ext β H w β' H' w') a'.defers .returning w' := by
          intro hpan h
          cases hr : dresults C T1 H1 fn.results.toList with
          | none => rw [hr] at h; cases h
          | some vs =>
            rw [hr] at h
            cases h
            obtain ⟨v', hv1, hv2⟩ := results_sound hC (h2 hpan) h4 fn hr
            rw [h3]
            exact ⟨v', hv1, β', hv2, h4, h5⟩
        cases e1 with
        | normal => cases e' <;> simp only [ERel] at h1; exact fin rfl h
        | ret => cases e' <;> simp only [ERel] at h1; exact fin rfl h
        | exit i => cases h
        | panic v b =>
          cases h
          cases e' <;> simp only [ERel] at h1
          simp only [bodyPostD]
          rw [h3]
          exact ⟨β', h1, h4, h5⟩
      | some gc =>
        obtain ⟨g, cap⟩ := gc
        obtain ⟨cap', hD, hcap⟩ := hD
        simp only at h
        cases hg : C.fn.get g with
        | none => rw [hg] at h; cases h
        | some gn =>
          rw [hg] at h
          simp only at h
          obtain ⟨g1, g2, g3⟩ := hC.fn g gn hg
          obtain ⟨cg, hcg⟩ := Option.isSome_iff_exists.1 g2
          have hokg := hF g gn cg hg hcg
          have hinv : (invoke (.fn (.func g) ⟨cap'⟩) #[]).run P w' = .ok (.enter g ⟨cap'⟩) w' := by
            have hnb : gn.body.isNone = false := by rw [hcg]; rfl
            simp only [invoke, callFunc, Sem.run_bind, run_program, Result.andThen_ok, g1, g3, hnb, Bool.false_eq_true, if_false, Sem.run_pure]
            simp
          -- leaving with one deferred call
          have fin : e1.pan = false → ∀ (rv rv' : Value) (u u' : FrameMode), u ≠ .run → V β' rv rv' → settle u' = .returning →
              (∀ (c₀ : Frame) (cs : List Frame), c₀.mode = u → (recoverD (c₀ :: cs) = some (rv', { c₀ with mode := u' } :: cs)) ∨ (recoverD (c₀ :: cs) = none ∧ rv' = .nilIface ∧ u' = u)) →
              (match callR C call (dr g) fuel gn cap rv H1 with
              | none => none
              | some H2 => match dresults C T1 H2 fn.results.toList with | some vs => some (DOut.ret (dtup vs), H2) | none => none) = some (out, H') →
              Leaves P fn a'.tmps (fun e w' => ∃ β', OutRel β' out e ∧ R β' H' w' ∧ Ext β H w β' H' w') a'.defers u w' := by
            intro hpan rv rv' u u' hu hrv hset hrec h
            cases hcr : callR C call (dr g) fuel gn cap rv H1 with
            | none => rw [hcr] at h; cases h
            | some H2 =>
              rw [hcr] at h
              simp only at h
              cases hr : dresults C T1 H2 fn.results.toList with
              | none => rw [hr] at h; cases h
              | some vs =>
                rw [hr] at h
                cases h
                rw [h3, hD]
                refine leaves_cons hu hinv ?_
                refine CallsD.mono (callR_sound hC hm hcall g1 hcg hokg hcr hcap h4 (h2 hpan).glob hrv hrec) fun e u2 w2 he => ?_
                obtain ⟨β2, ⟨v, rfl⟩, rfl, r1, r2⟩ := he
                simp only
                rw [hset]
                obtain ⟨v', hv1, hv2⟩ := results_sound hC ((h2 hpan).mono r2.sub) r1 fn hr
                exact ⟨v', hv1, β2, hv2, r1, h5.trans r2⟩
          have idle : ∀ (c₀ : Frame) (cs : List Frame), c₀.mode = .returning → (recoverD (c₀ :: cs) = some (.nilIface, { c₀ with mode := .returning } :: cs)) ∨ (recoverD (c₀ :: cs) = none ∧ Value.nilIface = .nilIface ∧ FrameMode.returning = .returning) := by
            intro c₀ cs hm
            refine .inr ⟨?_, rfl, rfl⟩
            simp [recoverD, hm]
          cases e1 with
          | normal =>
            cases e' <;> simp only [ERel] at h1
            exact fin rfl .nilIface .nilIface .returning .returning (by simp) .nilIface rfl idle h
          | ret =>
            cases e' <;> simp only [ERel] at h1
            exact fin rfl .nilIface .nilIface .returning .returning (by simp) .nilIface rfl idle h
          | exit i => cases h
          | panic v b =>
            cases b with
            | false => cases h
            | true =>
              cases e' <;> simp only [ERel] at h1
              obtain ⟨v', rfl, hv⟩ := h1
              refine fin rfl v v' (.panicking [{ v := v', recovered := false }]) (.panicking [{ v := v', recovered := true }]) (by simp) hv rfl (fun c₀ cs hm => .inl ?_) h
              simp [recoverD, hm]

theorem callM_ok (hm : P.follows .mixedOrders = true) {dr : Nat → Draws} {dl : List Nat} (hF : FnsOK C ng dr) {fuel : Nat} {base : Calling} (hbase : CallOK P ng base) : ∀ d, CallOK P ng (callM C dr dl fuel base d) := by
  intro d
  induction d with
  | zero => exact hbase
  | succ d ih =>
    intro f args H out H' h β w args' hargs hR hG
    simp only [callM] at h
    cases hb : base f args H with
    | some r =>
      rw [hb] at h
      cases h
      exact hbase f args H out H' hb β w args' hargs hR hG
    | none =>
      rw [hb] at h
      cases hf : C.fn.get f with
      | none => rw [hf] at h; cases h
      | some fn =>
        rw [hf] at h
        simp only at h
        obtain ⟨h1, h2, h3⟩ := hC.fn f fn hf
        obtain ⟨c, hc⟩ := Option.isSome_iff_exists.1 h2
        cases hd : dl.any (Nat.beq f) with
        | true =>
          rw [hd] at h
          exact callFD_sound hC hm hF ih h1 hc (hF f fn c hf hc) h hargs hR hG
        | false =>
          rw [hd] at h
          exact callF_sound hC hm ih h1 hc (hF f fn c hf hc) h hargs hR hG
end
end
end Go.Ds
