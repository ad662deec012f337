/- A deterministic layer over the model, part M: an operation, whichever. -/
import Derived.Test.YtnlnbhcjgacgmaaGreatDoorDsL
set_option linter.unusedVariables false
set_option linter.unusedSimpArgs false
namespace Go.Ds
noncomputable section

theorem arr_map {α γ : Type} (f : α → γ) (a : Array α) : a.map f = ⟨a.toList.map f⟩ := by apply Array.ext'; simp
theorem push_front (a : Value) (b : Array Value) : #[a] ++ b = ⟨a :: b.toList⟩ := by apply Array.ext'; simp
theorem extract_front (a : Value) (b : Array Value) : (#[a] ++ b).extract 1 (#[a] ++ b).size = b := by
  rw [push_front]
  apply Array.ext'
  rw [Array.toList_extract, List.extract_eq_drop_take']
  simp [List.take_of_length_le]
theorem VL_map {β : Emb} {ρ ρ' : Operand → Value} : ∀ (l : List Operand), (∀ x ∈ l, V β (ρ x) (ρ' x)) → VL β (l.map ρ) (l.map ρ')
  | [], _ => VL.nil β
  | x :: l, h => VL.cons (h x (List.mem_cons_self ..)) (VL_map l fun y hy => h y (List.mem_cons_of_mem _ hy))
theorem VL_parts {β : Emb} {ρ ρ' : Operand → Value} : ∀ (l : List (Nat × Operand)), (∀ x ∈ l.map (·.2), V β (ρ x) (ρ' x)) → VL β ((l.map fun p => (p.1, ρ p.2)).map (·.2)) ((l.map fun p => (p.1, ρ' p.2)).map (·.2))
  | [], _ => VL.nil β
  | x :: l, h => VL.cons (h x.2 (by simp)) (VL_parts l fun y hy => h y (by simp only [List.map_cons, List.mem_cons]; exact .inr hy))
theorem fst_parts {ρ ρ' : Operand → Value} (l : List (Nat × Operand)) : (l.map fun p => (p.1, ρ p.2)).map (·.1) = (l.map fun p => (p.1, ρ' p.2)).map (·.1) := by
  rw [List.map_map, List.map_map]; rfl

section
variable {P : Program} {C : Ctx} (hC : CtxOK P C) {β : Emb} {H : DH} {w : World}
include hC

theorem dmethod_mem : ∀ (l : List (TypeId × String × FuncId)) (t : TypeId) (n : String) (f : FuncId), dmethod l t n = some f → (t, n, f) ∈ l := by
  have _ := hC
  intro l
  induction l with
  | nil => intro t n f h; cases h
  | cons p l ih =>
    intro t n f h
    obtain ⟨t', n', f'⟩ := p
    simp only [dmethod] at h
    cases hc : (Nat.beq t' t && n' == n) with
    | true =>
      rw [hc] at h
      simp only [cond_true, Option.some.injEq] at h
      simp only [Bool.and_eq_true, beq_iff_eq] at hc
      have := Nat.eq_of_beq_eq_true hc.1
      rw [this, hc.2, h]
      exact List.mem_cons_self ..
    | false =>
      rw [hc] at h
      exact List.mem_cons_of_mem _ (ih t n f h)

theorem dcall_sound {ρ ρ' : Operand → Value} {c : Call} {ty : TypeId} {dr : DR} {H' : DH} (h : dcall C ρ c H = some (dr, H')) (hρ : ∀ x ∈ c.operands.toList, V β (ρ x) (ρ' x)) (hR : R β H w) :
    ∃ w' β', OpRes β' dr ((do let d ← resolve ρ' c ty; invoke d.target d.args : Sem Next).run P w) w' ∧ R β' H' w' ∧ Ext β H w β' H' w' := by
  obtain ⟨callee, cargs, argTypes⟩ := c
  unfold dcall at h
  cases callee with
  | builtin b =>
    simp only at h
    obtain ⟨p, hp, he⟩ := Option.map_eq_some_iff.1 h
    obtain ⟨v, H2⟩ := p
    cases he
    have ha : VL β (cargs.toList.map ρ) (cargs.toList.map ρ') := VL_map _ fun x hx => hρ x (by simp [Call.operands]; exact Array.mem_toList_iff.1 hx)
    obtain ⟨r', w', β', e1, e2, e3, e4⟩ := dbuiltin_sound hC (ts := argTypes) (ty := ty) (cs := cargs.map fun | .const _ => true | _ => false) hp ha hR
    refine ⟨w', β', ⟨r', ?_, e2⟩, e3, e4⟩
    simp only [resolve, arr_map ρ' cargs, Sem.run_bind, Sem.run_pure, Result.andThen_ok, invoke]
    exact e1
  | value f =>
    simp only at h
    have hf := hρ f (by simp [Call.operands])
    split at h
    · rename_i fid first captured hfv
      obtain ⟨r, hr, he⟩ := Option.map_eq_some_iff.1 h
      cases he
      rw [hfv] at hf
      obtain ⟨first', captured', hf2, v1, v2⟩ := hf.func_inv
      have ha : VL β (cargs.toList.map ρ) (cargs.toList.map ρ') := VL_map _ fun x hx => hρ x (by simp [Call.operands]; exact .inr (Array.mem_toList_iff.1 hx))
      have := dcallFn_sound hC hr ((VL.append v1 ha).append v2) w
      refine ⟨w, β, ?_, hR, Ext.refl _ _ _⟩
      simp only [resolve, Deferred.ofValue, hf2, Sem.run_bind, Sem.run_pure, Result.andThen_ok, invoke]
      have e : (first' ++ cargs.map ρ' ++ captured') = ⟨first'.toList ++ cargs.toList.map ρ' ++ captured'.toList⟩ := by apply Array.ext'; simp
      rw [e]
      exact this
    · cases h
  | invoke recv name =>
    simp only at h
    have hf := hρ recv (by simp [Call.operands])
    split at h
    · rename_i t v hfv
      split at h
      · rename_i f hm
        obtain ⟨r, hr, he⟩ := Option.map_eq_some_iff.1 h
        cases he
        rw [hfv] at hf
        cases hrv : ρ' recv with
        | iface t' v' =>
          rw [hrv] at hf
          cases hf with
          | iface _ hv =>
            have hmeth := hC.mth t name f (dmethod_mem hC _ _ _ _ hm)
            have ha : VL β (cargs.toList.map ρ) (cargs.toList.map ρ') := VL_map _ fun x hx => hρ x (by simp [Call.operands]; exact .inr (Array.mem_toList_iff.1 hx))
            have := dcallFn_sound hC hr (VL.cons hv ha) w
            refine ⟨w, β, ?_, hR, Ext.refl _ _ _⟩
            simp only [resolve, hrv, Sem.run_bind, Sem.run_pure, Result.andThen_ok, invoke]
            have e0 : (#[Value.iface t v'] ++ cargs.map ρ')[0]? = some (.iface t v') := by rw [push_front]; rfl
            have e1 := extract_front (Value.iface t v') (cargs.map ρ')
            rw [e0]
            simp only [callMethod, Sem.run_bind, run_program, Result.andThen_ok, hmeth, e1]
            have e : (#[v'] ++ cargs.map ρ') = ⟨v' :: cargs.toList.map ρ'⟩ := by apply Array.ext'; simp
            rw [e]
            exact this
        | _ => rw [hrv] at hf; cases hf
      · cases h
    · cases h

theorem dop_sound {ρ ρ' : Operand → Value} {o : Oper} {dr : DR} {H' : DH} (h : dop C ρ o H = some (dr, H')) (hρ : ∀ x ∈ o.op.operands.toList, V β (ρ x) (ρ' x)) (hR : R β H w) :
    ∃ w' β', OpRes β' dr ((execOp ρ' o).run P w) w' ∧ R β' H' w' ∧ Ext β H w β' H' w' := by
  obtain ⟨dst, op, type, pos, after, guard⟩ := o
  have okV_inv : ∀ {v : Option Value} {dr : DR} {H' : DH}, okV v H = some (dr, H') → ∃ x, v = some x ∧ dr = .val x ∧ H' = H := by
    intro v dr H' h
    obtain ⟨x, hx, he⟩ := Option.map_eq_some_iff.1 h
    cases he
    exact ⟨x, hx, rfl, rfl⟩
  have okVH_inv : ∀ {v : Option (Value × DH)} {dr : DR} {H' : DH}, okVH v = some (dr, H') → ∃ x, v = some (x, H') ∧ dr = .val x := by
    intro v dr H' h
    obtain ⟨x, hx, he⟩ := Option.map_eq_some_iff.1 h
    cases he
    exact ⟨x.1, hx, rfl⟩
  have okH_inv : ∀ {v : Option DH} {dr : DR} {H' : DH}, okH v = some (dr, H') → v = some H' ∧ dr = .skip := by
    intro v dr H' h
    obtain ⟨x, hx, he⟩ := Option.map_eq_some_iff.1 h
    cases he
    exact ⟨hx, rfl⟩
  have quiet : ∀ {s : Sem Value} {x : Value}, (∃ x', s.run P w = .ok x' w ∧ V β x x') → ∃ w' β', OpRes β' (.val x) ((do Pure.pure (Next.value (← s)) : Sem Next).run P w) w' ∧ R β' H w' ∧ Ext β H w β' H w' := by
    intro s x hx
    obtain ⟨x', h1, h2⟩ := hx
    exact ⟨w, β, ⟨x', run_v hC h1, h2⟩, hR, Ext.refl _ _ _⟩
  have loud : ∀ {s : Sem Value} {x : Value} {H' : DH}, (∃ x' w' β', s.run P w = .ok x' w' ∧ V β' x x' ∧ R β' H' w' ∧ Ext β H w β' H' w') → ∃ w' β', OpRes β' (.val x) ((do Pure.pure (Next.value (← s)) : Sem Next).run P w) w' ∧ R β' H' w' ∧ Ext β H w β' H' w' := by
    intro s x H' hx
    obtain ⟨x', w', β', h1, h2, h3⟩ := hx
    exact ⟨w', β', ⟨x', run_v hC h1, h2⟩, h3⟩
  have mute : ∀ {s : Sem Unit} {H' : DH}, (∃ w', s.run P w = .ok () w' ∧ R β H' w' ∧ Ext β H w β H' w') → ∃ w' β', OpRes β' .skip ((do s; Pure.pure Next.skip : Sem Next).run P w) w' ∧ R β' H' w' ∧ Ext β H w β' H' w' := by
    intro s H' hx
    obtain ⟨w', h1, h3⟩ := hx
    exact ⟨w', β, by simp [OpRes, h1], h3⟩
  cases op <;> simp only [dop] at h <;> simp only [Op.operands] at hρ <;> try (cases h; done)
  case move x => cases h; exact ⟨w, β, ⟨_, rfl, hρ x (by simp)⟩, hR, Ext.refl _ _ _⟩
  case assign x => cases h; exact ⟨w, β, ⟨_, rfl, hρ x (by simp)⟩, hR, Ext.refl _ _ _⟩
  case pick c a b =>
    have hc := hρ c (by simp)
    have ha := hρ a (by simp)
    have hb := hρ b (by simp)
    split at h
    · rename_i t hct
      cases h
      rw [hct] at hc
      cases hcv : ρ' c <;> rw [hcv] at hc <;> cases hc
      refine ⟨w, β, ⟨_, by simp only [execOp, hcv, asBool, Sem.run_bind, Sem.run_pure, Result.andThen_ok]; rfl, ?_⟩, hR, Ext.refl _ _ _⟩
      cases t
      · exact hb
      · exact ha
    · cases h
  case alloc e =>
    split at h
    · rename_i i ht
      split at h
      · rename_i z hz
        obtain ⟨x, hx, rfl⟩ := okVH_inv h
        have hi := hC.ty e i ht
        have := dnew_sound (P := P) e (plain_V β (hi.zero z hz).1) hR
        simp only [Option.some.injEq] at hx
        rw [hx] at this
        refine loud ?_
        obtain ⟨x', w', β', e1, e2⟩ := this
        refine ⟨x', w', β', ?_, e2⟩
        simp only [Instr.alloc, Sem.run_bind, run_zero hi hz, Result.andThen_ok]
        simpa using e1
      · cases h
    · cases h
  case box e x =>
    obtain ⟨v, hx, rfl⟩ := okVH_inv h
    have := dnew_sound (P := P) e (hρ x (by simp)) hR
    simp only [Option.some.injEq] at hx
    rw [hx] at this
    exact loud this
  case build t parts =>
    obtain ⟨x, hx, rfl, rfl⟩ := okV_inv h
    refine quiet ?_
    have := dbuild_sound hC (parts' := parts.toList.map fun p => (p.1, ρ' p.2)) hx (fst_parts _) (VL_parts parts.toList fun x hx => hρ x (by simpa using hx)) w
    rw [← arr_map (fun p => (p.1, ρ' p.2)) parts] at this
    exact this
  case buildSlice t len parts =>
    obtain ⟨x, hx, rfl⟩ := okVH_inv h
    refine loud ?_
    have := dbuildSlice_sound hC (parts' := parts.toList.map fun p => (p.1, ρ' p.2)) hx (fst_parts _) (VL_parts parts.toList fun x hx => hρ x (by simpa using hx)) hR
    rw [← arr_map (fun p => (p.1, ρ' p.2)) parts] at this
    exact this
  case insert t m k v =>
    obtain ⟨hx, rfl⟩ := okH_inv h
    exact mute (dmapUpdate_sound hC hx (hρ m (by simp)) (hρ k (by simp)) (hρ v (by simp)) hR)
  case load t a =>
    obtain ⟨x, hx, rfl, rfl⟩ := okV_inv h
    exact quiet (dload_sound hC hx (hρ a (by simp)) hR)
  case store t a x =>
    obtain ⟨hx, rfl⟩ := okH_inv h
    exact mute (dstore_sound hC hx (hρ a (by simp)) (hρ x (by simp)) hR)
  case nilCheck x =>
    have hx := hρ x (by simp)
    split at h
    · rename_i a ha
      cases h
      rw [ha] at hx
      cases hv : ρ' x with
      | pointer b =>
        rw [hv] at hx
        cases b with
        | none => cases hx
        | some b => exact ⟨w, β, ⟨_, by simp only [execOp, hv]; rfl, hx⟩, hR, Ext.refl _ _ _⟩
      | _ => rw [hv] at hx; cases hx
    · rename_i f a b ha
      cases h
      rw [ha] at hx
      obtain ⟨f', c', hv, v1, v2⟩ := hx.func_inv
      exact ⟨w, β, ⟨_, by simp only [execOp, hv]; rfl, V.func' _ v1 v2⟩, hR, Ext.refl _ _ _⟩
    · rename_i t v ha
      cases h
      rw [ha] at hx
      cases hv : ρ' x with
      | iface t' v' =>
        rw [hv] at hx
        exact ⟨w, β, ⟨_, by simp only [execOp, hv]; rfl, hx⟩, hR, Ext.refl _ _ _⟩
      | _ => rw [hv] at hx; cases hx
    · cases h
  case binOp op t x y yt =>
    obtain ⟨r, hr, rfl, rfl⟩ := okV_inv h
    exact quiet (dbin_sound hC hr (hρ x (by simp)) (hρ y (by simp)) w)
  case unOp op t x =>
    obtain ⟨r, hr, rfl, rfl⟩ := okV_inv h
    obtain ⟨e1, e2⟩ := dun_sound (P := P) hr (hρ x (by simp)) w
    exact quiet ⟨_, e1, plain_V β (by cases op <;> cases hxx : ρ x <;> simp only [hxx, dun] at hr <;> first | (cases hr; done) | (cases hr; rfl))⟩
  case convert src dst x =>
    obtain ⟨v, hx, rfl⟩ := okVH_inv h
    exact loud (dconvert_sound hC hx (hρ x (by simp)) hR)
  case makeInterface t x =>
    split at h
    · rename_i i ht
      split at h
      · rename_i hcon
        cases h
        obtain ⟨d, hd, _, hr⟩ := run_kind hC ht
        refine ⟨w, β, ⟨.iface t (ρ' x), ?_, .iface t (hρ x (by simp))⟩, hR, Ext.refl _ _ _⟩
        refine run_v hC ?_
        simp only [Instr.makeInterface, Sem.run_bind, hr, Result.andThen_ok]
        cases d <;> first
          | rfl
          | (exfalso; cases hk : i.kind <;> rw [hk] at hd hcon <;> simp [dkRel, concrete] at hd hcon)
      · cases h
    · cases h
  case makeFunc fn first captured =>
    cases h
    refine ⟨w, β, ⟨.func fn ⟨first.toList.map ρ'⟩ ⟨captured.toList.map ρ'⟩, ?_, V.func' fn (VL_map _ fun x hx => hρ x (by simp; exact .inl (Array.mem_toList_iff.1 hx))) (VL_map _ fun x hx => hρ x (by simp; exact .inr (Array.mem_toList_iff.1 hx)))⟩, hR, Ext.refl _ _ _⟩
    refine run_v hC ?_
    simp only [Instr.makeFunc, arr_map ρ', Sem.run_pure]
  case makeMap t r =>
    cases r with
    | some _ => cases h
    | none =>
      cases h
      have := hR.alloc (.map []) (.map #[] 0) 0 ⟨VL.nil _, VL.nil _⟩
      refine ⟨_, _, ⟨.map (some w.heap.size), ?_, V.map (bi := ⟨w.heap.size, 0, 0⟩) (embAdd_same _ _ _)⟩, this.1, this.2⟩
      simp [execOp, Instr.makeMap]
  case makeSlice t l c =>
    obtain ⟨v, hx, rfl⟩ := okVH_inv h
    exact loud (dmakeSlice_sound hC hx (hρ l (by simp)) (hρ c (by simp)) hR)
  case slice t x lo hi mx =>
    obtain ⟨r, hr, rfl, rfl⟩ := okV_inv h
    have ov : ∀ (q : Option Operand), (∀ y ∈ q.toArray.toList, V β (ρ y) (ρ' y)) → OV β (q.map ρ) (q.map ρ') := by
      intro q hq
      cases q with
      | none => trivial
      | some y => exact hq y (by simp)
    refine quiet (dslice_sound hC hr (hρ x (by simp)) (ov lo fun y hy => hρ y ?_) (ov hi fun y hy => hρ y ?_) (ov mx fun y hy => hρ y ?_) hR)
    · simp at hy ⊢; simp [hy]
    · simp at hy ⊢; simp [hy]
    · simp at hy ⊢; simp [hy]
  case fieldAddr s x f =>
    obtain ⟨r, hr, rfl, rfl⟩ := okV_inv h
    exact quiet (dfieldAddr_sound hC hr (hρ x (by simp)) w)
  case field s x f =>
    obtain ⟨r, hr, rfl, rfl⟩ := okV_inv h
    exact quiet (dfield_sound hC hr (hρ x (by simp)) w)
  case indexAddr t x ix =>
    obtain ⟨r, hr, rfl, rfl⟩ := okV_inv h
    exact quiet (dindexAddr_sound hC hr (hρ x (by simp)) (hρ ix (by simp)) w)
  case index t x ix =>
    obtain ⟨r, hr, rfl, rfl⟩ := okV_inv h
    exact quiet (dindex_sound hC hr (hρ x (by simp)) (hρ ix (by simp)) w)
  case lookup t x k ok =>
    obtain ⟨r, hr, rfl, rfl⟩ := okV_inv h
    exact quiet (dlookup_sound hC hr (hρ x (by simp)) (hρ k (by simp)) hR)
  case mapUpdate t m k v =>
    obtain ⟨hx, rfl⟩ := okH_inv h
    exact mute (dmapUpdate_sound hC hx (hρ m (by simp)) (hρ k (by simp)) (hρ v (by simp)) hR)
  case range t x =>
    obtain ⟨v, hx, rfl⟩ := okVH_inv h
    exact loud (drange_sound hC hx (hρ x (by simp)) hR)
  case next it s =>
    cases s with
    | false => cases h
    | true =>
      obtain ⟨v, hx, rfl⟩ := okVH_inv h
      obtain ⟨r', w', e1, e2, e3, e4⟩ := dnext_sound (P := P) (ty := type) hx (hρ it (by simp)) hR
      exact loud ⟨r', w', β, e1, e2, e3, e4⟩
  case typeAssert x xt asserted ok =>
    obtain ⟨r, hr, rfl, rfl⟩ := okV_inv h
    exact quiet (dassert_sound hC hr (hρ x (by simp)) w)
  case extract t ix =>
    have hx := hρ t (by simp)
    split at h
    · rename_i vs hvs
      obtain ⟨r, hr, rfl, rfl⟩ := okV_inv h
      rw [hvs] at hx
      obtain ⟨ys, hv, hvl⟩ := hx.tuple_inv
      obtain ⟨y, hy, hvy⟩ := VL.get hvl hr
      refine quiet ⟨y, ?_, hvy⟩
      have : ys[ix]? = some y := by rw [← Array.getElem?_toList]; exact hy
      simp [Instr.extract, hv, this]
    · cases h
  case call c => exact dcall_sound hC h hρ hR
  case panic x =>
    have hx := hρ x (by simp)
    split at h
    · rename_i t v hv
      cases h
      rw [hv] at hx
      cases hv' : ρ' x with
      | iface t' v' =>
        rw [hv'] at hx
        exact ⟨w, β, ⟨_, by simp [execOp, Instr.panic, hv'], hx⟩, hR, Ext.refl _ _ _⟩
      | _ => rw [hv'] at hx; cases hx
    · cases h
end
end
end Go.Ds
