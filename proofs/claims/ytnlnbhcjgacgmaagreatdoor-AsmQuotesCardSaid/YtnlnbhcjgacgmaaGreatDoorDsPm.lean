/- A deterministic layer over the model, part Pm: a region that lays a small map by inserts in whatever order, looks it up, and lets it die. -/
import Derived.Test.YtnlnbhcjgacgmaaGreatDoorDsQ
set_option linter.unusedVariables false
set_option linter.unusedSimpArgs false
namespace Go.Ds
noncomputable section

/-! ### Heaps that read alike -/
theorem R.congr {β : Emb} {H H' : DH} {w : World} (hg : ∀ h, H'.get h = H.get h) (hn : H'.n = H.n) (h : R β H w) : R β H' w :=
  ⟨fun x o bi hx => h.obj x o bi (by rw [← hg]; exact hx), fun a b bi bi' ha hb => h.inj a b bi bi' (by rw [← hg]; exact ha) (by rw [← hg]; exact hb), fun k hk => h.fresh k (hn ▸ hk), h.lt⟩
theorem Ext.congr {β β' : Emb} {H H1 H2 : DH} {w w' : World} (hg : ∀ h, H2.get h = H1.get h) (hn : H2.n = H1.n) (h : Ext β H w β' H1 w') : Ext β H w β' H2 w' :=
  ⟨h.sub, h.size, h.keep, fun x bi hx => h.live x bi (by rw [← hg]; exact hx), h.os, h.tape, h.output, hn ▸ h.n, h.dom⟩
/-- Something that has no block yet is known. -/
theorem R.known {β : Emb} {H : DH} {w : World} (h : R β H w) {hm : Nat} (hb : β hm = none) (o : DO) : R β (H.set hm (some o)) w where
  obj := fun x ob bi hx hbx => by
    rw [DH.get_set] at hx
    split at hx
    · rename_i e; subst e; rw [hb] at hbx; cases hbx
    · exact h.obj x ob bi hx hbx
  inj := fun a b bi bi' ha hb' hba hbb => by
    have ha' : a ≠ hm := fun e => by subst e; rw [hb] at hba; cases hba
    have hb2 : b ≠ hm := fun e => by subst e; rw [hb] at hbb; cases hbb
    rw [DH.get_set, if_neg ha'] at ha
    rw [DH.get_set, if_neg hb2] at hb'
    exact h.inj a b bi bi' ha hb' hba hbb
  fresh := h.fresh
  lt := h.lt
theorem Ext.known {β β' : Emb} {H H1 : DH} {w w' : World} (h : Ext β H w β' H1 w') {hm : Nat} (hb : β' hm = none) (o : DO) : Ext β H w β' (H1.set hm (some o)) w' :=
  ⟨h.sub, h.size, h.keep, fun x bi hx hbx => by
    have e : x ≠ hm := fun e => by subst e; rw [hb] at hbx; cases hbx
    rw [DH.get_set, if_neg e] at hx
    exact h.live x bi hx hbx, h.os, h.tape, h.output, h.n, h.dom⟩
/-- One handle is left out. -/
theorem R.less {β : Emb} {H : DH} {w : World} {hm : Nat} {o : DO} (h : R β (H.set hm (some o)) w) (hg : H.get hm = none) : R β H w where
  obj := fun x ob bi hx => h.obj x ob bi (by
    rw [DH.get_set]; split
    · rename_i e; subst e; rw [hg] at hx; cases hx
    · exact hx)
  inj := fun a b bi bi' ha hb => h.inj a b bi bi' (by
    rw [DH.get_set]; split
    · simp
    · exact ha) (by
    rw [DH.get_set]; split
    · simp
    · exact hb)
  fresh := h.fresh
  lt := h.lt
theorem Ext.less {β β' : Emb} {H H1 : DH} {w w' : World} {hm : Nat} {o : DO} (h : Ext β H w β' (H1.set hm (some o)) w') (hg : H1.get hm = none) : Ext β H w β' H1 w' :=
  ⟨h.sub, h.size, h.keep, fun x bi hx => h.live x bi (by
    rw [DH.get_set]; split
    · simp
    · exact hx), h.os, h.tape, h.output, h.n, h.dom⟩
/-- What was left out is there again. -/
theorem R.again {β β2 : Emb} {H H2 : DH} {w w2 : World} {hm : Nat} {o : DO} (h : R β (H.set hm (some o)) w) (hg : H.get hm = none) (hg2 : H2.get hm = none) (hx : Ext β H w β2 H2 w2) (h2 : R β2 H2 w2) (hd : ∃ bi, β hm = some bi) :
    R β2 (H2.set hm (some o)) w2 ∧ Ext β (H.set hm (some o)) w β2 (H2.set hm (some o)) w2 := by
  obtain ⟨bm, hbm⟩ := hd
  have hbm2 := hx.sub hm bm hbm
  obtain ⟨x, hx1, hx2⟩ := h.obj hm o bm (by simp) hbm
  have hlt := h.lt hm bm hbm
  have hown : ∀ a bi, H.get a ≠ none → β a = some bi → bi.rb ≠ bm.rb := by
    intro a bi ha hb e
    have hne : a ≠ hm := fun e => by subst e; exact ha hg
    have := h.inj a hm bi bm (by rw [DH.get_set, if_neg hne]; exact ha) (by simp) hb hbm e
    exact hne this
  have hkeep : w2.heap[bm.rb]? = some x := by rw [hx.keep bm.rb hlt hown]; exact hx1
  have hown2 : ∀ a bi, H2.get a ≠ none → β2 a = some bi → bi.rb ≠ bm.rb := by
    intro a bi ha hb e
    rcases hx.live a bi ha hb with ⟨a0, b0, h1, h2, h3⟩ | h1
    · exact hown a0 b0 h1 h2 (h3.trans e)
    · omega
  refine ⟨⟨fun a ob bi ha hb => ?_, fun a b bi bi' ha hb hba hbb e => ?_, h2.fresh, h2.lt⟩, ⟨hx.sub, hx.size, fun r hr hn => hx.keep r hr fun a bi ha hb => ?_, fun a bi ha hb => ?_, hx.os, hx.tape, hx.output, hx.n, hx.dom⟩⟩
  · rw [DH.get_set] at ha
    split at ha
    · rename_i e; subst e; cases ha
      rw [hbm2] at hb; cases hb
      exact ⟨x, hkeep, hx2.mono hx.sub⟩
    · exact h2.obj a ob bi ha hb
  · rw [DH.get_set] at ha hb
    by_cases e1 : a = hm
    · by_cases e2 : b = hm
      · rw [e1, e2]
      · rw [if_neg e2] at hb
        subst e1
        rw [hbm2] at hba; cases hba
        exact absurd e.symm (hown2 b bi' hb hbb)
    · rw [if_neg e1] at ha
      by_cases e2 : b = hm
      · subst e2
        rw [hbm2] at hbb; cases hbb
        exact absurd e (hown2 a bi ha hba)
      · rw [if_neg e2] at hb
        exact h2.inj a b bi bi' ha hb hba hbb e
  · have hne : a ≠ hm := fun e => by subst e; exact ha hg
    exact hn a bi (by rw [DH.get_set, if_neg hne]; exact ha) hb
  · rw [DH.get_set] at ha
    by_cases e1 : a = hm
    · subst e1
      rw [hbm2] at hb; cases hb
      exact .inl ⟨a, _, by simp, hbm, rfl⟩
    · rw [if_neg e1] at ha
      rcases hx.live a bi ha hb with ⟨a0, b0, h1, h2, h3⟩ | h1
      · have hne : a0 ≠ hm := fun e => by subst e; exact h1 hg
        exact .inl ⟨a0, b0, by rw [DH.get_set, if_neg hne]; exact h1, h2, h3⟩
      · exact .inr h1

/-! ### Maps over whole numbers -/
def intMap (C : Ctx) (t : TypeId) : Bool :=
  match C.ty.get t with
  | some i =>
    match i.kind with
    | .map kt _ =>
      match C.ty.get kt with
      | some ik => match ik.kind with | .int _ => true | _ => false
      | none => false
    | _ => false
  | none => false
theorem intMap_spec {C : Ctx} {t : TypeId} (h : intMap C t = true) : ∃ i kt et ik k, C.ty.get t = some i ∧ i.kind = .map kt et ∧ C.ty.get kt = some ik ∧ ik.kind = .int k := by
  unfold intMap at h
  split at h
  · rename_i i hi
    split at h
    · rename_i kt et hk
      split at h
      · rename_i ik hik
        split at h
        · rename_i k hkk
          exact ⟨i, kt, et, ik, k, hi, hk, hik, hkk⟩
        · cases h
      · cases h
    · cases h
  · cases h
theorem deq_int {C : Ctx} {kt : TypeId} {ik : TI} {k : IntKind} (h1 : C.ty.get kt = some ik) (h2 : ik.kind = .int k) (kk : IntKind) (x y : Int) : deq C eqDepth kt (.int kk x) (.int kk y) = some (x == y) := by
  unfold eqDepth deq
  rw [h1]
  simp only [h2]
  simp
theorem dkeyOk_int {C : Ctx} {kt : TypeId} {ik : TI} {k : IntKind} (h1 : C.ty.get kt = some ik) (h2 : ik.kind = .int k) (kk : IntKind) (x : Int) : dkeyOk C eqDepth kt (.int kk x) = true := by
  unfold eqDepth dkeyOk
  rw [h1]
  simp only [h2]
theorem dfind_none {C : Ctx} {kt : TypeId} {ik : TI} {k : IntKind} (h1 : C.ty.get kt = some ik) (h2 : ik.kind = .int k) (kk : IntKind) (x : Int) : ∀ (es : List (Value × Value)) (i : Nat), (∀ p ∈ es, ∃ y, p.1 = .int kk y ∧ y ≠ x) → dfind (deq C eqDepth kt) (.int kk x) es i = some none := by
  intro es
  induction es with
  | nil => intro i _; rfl
  | cons p es ih =>
    intro i h
    obtain ⟨a, v⟩ := p
    obtain ⟨y, e, hy⟩ := h (a, v) List.mem_cons_self
    simp only at e
    subst e
    have hb : (x == y) = false := by simpa using Ne.symm hy
    simp only [dfind, deq_int h1 h2, hb]
    exact ih _ fun p hp => h p (List.mem_cons_of_mem _ hp)
theorem dfind_some {C : Ctx} {kt : TypeId} {ik : TI} {k : IntKind} (h1 : C.ty.get kt = some ik) (h2 : ik.kind = .int k) (kk : IntKind) (x : Int) (v : Value) : ∀ (es : List (Value × Value)) (i : Nat), (∀ p ∈ es, ∃ y, p.1 = .int kk y ∧ (y = x → p.2 = v)) → (Value.int kk x, v) ∈ es → ∃ j, dfind (deq C eqDepth kt) (.int kk x) es i = some (some (j, v)) := by
  intro es
  induction es with
  | nil => intro i _ h; cases h
  | cons p es ih =>
    intro i h hm
    obtain ⟨a, u⟩ := p
    obtain ⟨y, e, hy⟩ := h (a, u) List.mem_cons_self
    simp only at e hy
    subst e
    simp only [dfind, deq_int h1 h2]
    by_cases hxy : x = y
    · subst hxy
      simp only [beq_self_eq_true]
      exact ⟨i, by rw [hy rfl]⟩
    · have hb : (x == y) = false := by simpa using hxy
      simp only [hb]
      refine ih _ (fun p hp => h p (List.mem_cons_of_mem _ hp)) ?_
      rcases List.mem_cons.1 hm with e | hm
      · cases e; exact absurd rfl hxy
      · exact hm
theorem dins {C : Ctx} {t : TypeId} (ht : intMap C t = true) (kk : IntKind) (x : Int) (v : Value) {H : DH} {h : Nat} {es : List (Value × Value)} (hg : H.get h = some (.map es)) (hes : ∀ p ∈ es, ∃ y, p.1 = .int kk y ∧ y ≠ x) :
    dmapUpdate C t (.map (some h)) (.int kk x) v H = some (H.set h (some (.map (es ++ [(.int kk x, v)])))) := by
  obtain ⟨i, kt, et, ik, k, h1, h2, h3, h4⟩ := intMap_spec ht
  unfold dmapUpdate
  rw [h1]
  simp only [h2, hg, dkeyOk_int h3 h4, if_true, dfind_none h3 h4 kk x es 0 hes]
theorem dlk {C : Ctx} {t : TypeId} (ht : intMap C t = true) (kk : IntKind) (x : Int) (v : Value) {H : DH} {h : Nat} {es : List (Value × Value)} (hg : H.get h = some (.map es)) (hes : ∀ p ∈ es, ∃ y, p.1 = .int kk y ∧ (y = x → p.2 = v)) (hm : (Value.int kk x, v) ∈ es) :
    dlookup C t (.map (some h)) (.int kk x) false H = some v := by
  obtain ⟨i, kt, et, ik, k, h1, h2, h3, h4⟩ := intMap_spec ht
  obtain ⟨j, hj⟩ := dfind_some h3 h4 kk x v es 0 hes hm
  unfold dlookup
  rw [h1]
  simp only [h2, hg, dkeyOk_int h3 h4, if_true, hj, Bool.false_eq_true, if_false]

/-! ### The region's looks -/
def pmAll (f : Nat → Oper → Bool) : Nat → List Oper → Bool
  | _, [] => true
  | i, o :: r => f i o && pmAll f (i + 1) r
theorem pmAll_spec {f : Nat → Oper → Bool} : ∀ {l : List Oper} {k : Nat}, pmAll f k l = true → ∀ i o, l[i]? = some o → f (k + i) o = true := by
  intro l
  induction l with
  | nil => intro k h i o ho; simp at ho
  | cons x l ih =>
    intro k h i o ho
    simp only [pmAll, Bool.and_eq_true] at h
    cases i with
    | zero => simp at ho; subst ho; exact h.1
    | succ i =>
      have := ih h.2 i o (by simpa using ho)
      rwa [show k + 1 + i = k + (i + 1) by omega] at this
def onIn (o : Oper) (j : Nat) : Bool := o.after.toList.any fun e => Nat.beq e.on j && Region.binds .any e
theorem onIn_spec {o : Oper} {j : Nat} (h : onIn o j = true) : ∃ e ∈ o.after, Region.binds .any e = true ∧ e.on = j := by
  unfold onIn at h
  rw [List.any_eq_true] at h
  obtain ⟨e, he, hb⟩ := h
  rw [Bool.and_eq_true] at hb
  exact ⟨e, Array.mem_toList_iff.1 he, hb.2, Nat.eq_of_beq_eq_true hb.1⟩
def dstIs (o : Oper) (t : Nat) : Bool := match o.dst with | some d => Nat.beq d t | none => false
theorem dstIs_true {o : Oper} {t : Nat} (h : o.dst = some t) : dstIs o t = true := by unfold dstIs; rw [h]; simp
def pmDep (l : List Oper) (o : Oper) : Bool := o.op.operands.toList.all fun x => match x with | .tmp t => pmAll (fun j oj => !dstIs oj t || onIn o j) 0 l | _ => true
def mkOf (o : Oper) : Option Nat := match o.op with | .makeMap _ none => o.dst | _ => none
def insOf (tm : Nat) (o : Oper) : Option (TypeId × IntKind × Int × Operand) :=
  match o.op with
  | .insert t (.tmp m) (.const (.int k x)) v => match Nat.beq m tm, o.dst with | true, none => some (t, k, x, v) | _, _ => none
  | _ => none
theorem insOf_spec {tm : Nat} {o : Oper} {t : TypeId} {k : IntKind} {x : Int} {v : Operand} (h : insOf tm o = some (t, k, x, v)) : o.op = .insert t (.tmp tm) (.const (.int k x)) v ∧ o.dst = none := by
  unfold insOf at h
  split at h
  · rename_i t' m k' x' v' e
    split at h
    · rename_i hm hd
      cases h
      rw [Nat.eq_of_beq_eq_true hm] at e
      exact ⟨e, hd⟩
    · cases h
  · cases h
def lkOf (o : Oper) : Option (TypeId × Operand × Operand × Nat) :=
  match o.op, o.dst with
  | .lookup t x k false, some d => some (t, x, k, d)
  | _, _ => none
theorem lkOf_spec {o : Oper} {t : TypeId} {x k : Operand} {d : Nat} (h : lkOf o = some (t, x, k, d)) : o.op = .lookup t x k false ∧ o.dst = some d := by
  unfold lkOf at h
  split at h
  · rename_i h1 h2; cases h; exact ⟨h1, h2⟩
  · cases h
def pmPre (tm : Nat) (l : List Oper) (o : Oper) : Bool := pmAll (fun j oj => (match insOf tm oj with | some _ => false | none => !Nat.beq j 0) || onIn o j || o.after.toList.any fun e => Region.binds .any e && match l[e.on]? with | some oe => onIn oe j | none => false) 0 l
/-- What the region's text shows. -/
def pmStat (n ng : Nat) (ops : Array Oper) (tm ic : Nat) : Bool :=
  let l := ops.toList
  pmAll (fun i o =>
    opOk n ng o && o.guard.isNone && (o.after.toList.all fun e => !Region.binds .any e || Nat.blt e.on i) &&
    (match o.dst with | some d => pmAll (fun j oj => !dstIs oj d || Nat.beq i j) 0 l | none => true) && pmDep l o &&
    (match insOf tm o with | some (_, k, x, _) => pmAll (fun j oj => match insOf tm oj with | some (_, k', x', _) => decide (k = k') && (Nat.beq i j || !decide (x = x')) | none => true) 0 l | none => true) &&
    (match Nat.beq i ic with
     | true => (insOf tm o).isNone && !Nat.beq i 0
     | false => match Nat.beq i 0 with
       | true => match mkOf o with | some d => Nat.beq d tm | none => false
       | false => match insOf tm o with
         | some _ => true
         | none => match lkOf o with
           | some _ => pmPre tm l o
           | none => looks o)) 0 l && Nat.blt 0 l.length
/-! ### The region's run -/
def pmVal (T : Tr Value) (tm : Nat) (kk : IntKind) (x : Int) : List Oper → Option Value
  | [] => none
  | o :: r =>
    match insOf tm o with
    | some (_, k, y, v) => if k = kk ∧ y = x then some (deval T v) else pmVal T tm kk x r
    | none => pmVal T tm kk x r
def pmOne (C : Ctx) (ops : Array Oper) (tm hm : Nat) (T : Tr Value) (H : DH) (o : Oper) : Option Value :=
  match mkOf o with
  | some _ => some (.map (some hm))
  | none =>
    match insOf tm o with
    | some _ => some undef
    | none =>
      match lkOf o with
      | some (_, _, k, _) => (match deval T k with | .int kk x => pmVal T tm kk x ops.toList | _ => none)
      | none => pval C ops T o H
def pmSeq (C : Ctx) (ops : Array Oper) (tm hm : Nat) (H : DH) : List Oper → Tr Value → Option (Tr Value)
  | [], T => some T
  | o :: r, T =>
    match pmOne C ops tm hm T H o with
    | some v => pmSeq C ops tm hm H r (dput o.dst v T)
    | none => none
def pmDyn (C : Ctx) (ops : Array Oper) (tm ic hm : Nat) (T1 T' : Tr Value) (H1 Hc : DH) (vc : Value) : Bool :=
  (match H1.get hm, Hc.get hm with | none, none => true | _, _ => false) && pmAll (fun i o =>
    match Nat.beq i ic with
    | true => (o.op.operands.toList.all fun x => eqV 6 (deval T1 x) (deval T' x)) && (match o.dst with | some d => eqV 6 vc (tget T' d) | none => true)
    | false =>
      match Nat.beq i 0 with
      | true => (match tget T' tm with | .map (some h) => Nat.beq h hm | _ => false)
      | false =>
        match insOf tm o with
        | some (t, _, _, _) => intMap C t
        | none =>
          match lkOf o with
          | some (t, y, k, d) => intMap C t && (match deval T' y, deval T' k with | .map (some h), .int kk x => Nat.beq h hm && (match pmVal T' tm kk x ops.toList with | some v => eqV 6 v (tget T' d) | none => false) | _, _ => false)
          | none =>
            match pval C ops T' o H1, pval C ops T' o Hc with
            | some v, some v' => (match o.dst with | some d => eqV 6 v (tget T' d) && eqV 6 v' (tget T' d) | none => true)
            | _, _ => false) 0 ops.toList
def evalPm (C : Ctx) (call : Calling) (ops : Array Oper) (tm ic : Nat) (T : Tr Value) (H : DH) : DRes :=
  let hm := 2 * H.n
  let H1 := H.bump
  match pmSeq C ops tm hm H1 (ops.toList.take ic) T with
  | none => none
  | some T1 =>
    match ops.toList[ic]? with
    | none => none
    | some oc =>
      match stepOp C call oc T1 H1 with
      | some (.ret v, Hc) =>
        match pmSeq C ops tm hm Hc (ops.toList.drop (ic + 1)) (dput oc.dst v T1) with
        | some T' => match pmDyn C ops tm ic hm T1 T' H1 Hc v with | true => some (.normal, T', Hc) | false => none
        | none => none
      | _ => none
theorem pmSeq_out {C : Ctx} {ops : Array Oper} {tm hm : Nat} {H : DH} : ∀ {l : List Oper} {T T' : Tr Value}, pmSeq C ops tm hm H l T = some T' → ∀ t, (∀ o ∈ l, o.dst ≠ some t) → tget T' t = tget T t := by
  intro l
  induction l with
  | nil => intro T T' h t _; cases h; rfl
  | cons o l ih =>
    intro T T' h t ht
    simp only [pmSeq] at h
    split at h
    · rename_i v hv
      rw [ih h t (fun o' ho' => ht o' (List.mem_cons_of_mem _ ho')), tget_dput, if_neg (ht o List.mem_cons_self)]
    · cases h
theorem pmVal_spec {T : Tr Value} {tm : Nat} {kk : IntKind} {x : Int} {v : Value} : ∀ {l : List Oper}, pmVal T tm kk x l = some v → ∃ (j : Nat) (o : Oper) (t : TypeId) (y : Operand), l[j]? = some o ∧ insOf tm o = some (t, kk, x, y) ∧ deval T y = v := by
  intro l
  induction l with
  | nil => intro h; cases h
  | cons o l ih =>
    intro h
    simp only [pmVal] at h
    split at h
    · rename_i t k y v' hi
      split at h
      · rename_i hk
        obtain ⟨rfl, rfl⟩ := hk
        cases h
        exact ⟨0, o, t, v', rfl, hi, rfl⟩
      · obtain ⟨j, o', t', y', h1, h2, h3⟩ := ih h
        exact ⟨j + 1, o', t', y', by simpa using h1, h2, h3⟩
    · obtain ⟨j, o', t', y', h1, h2, h3⟩ := ih h
      exact ⟨j + 1, o', t', y', by simpa using h1, h2, h3⟩

/-! ### Sound -/
inductive PmKind (C : Ctx) (ops : Array Oper) (tm hm : Nat) (T' : Tr Value) (H1 Hc : DH) (o : Oper) : Prop where
  | ins (q : TypeId × IntKind × Int × Operand) (h : insOf tm o = some q)
  | lk (t : TypeId) (y k : Operand) (d : Nat) (kk : IntKind) (x : Int) (h1 : lkOf o = some (t, y, k, d)) (h0 : insOf tm o = none) (h2 : intMap C t = true) (h3 : deval T' y = .map (some hm)) (h4 : deval T' k = .int kk x)
      (h5 : pmVal T' tm kk x ops.toList = some (tget T' d)) (h6 : pmPre tm ops.toList o = true)
  | look (h0 : insOf tm o = none) (v1 v2 : Value) (h1 : dop C (deval T') o H1 = some (.val v1, H1)) (h2 : dop C (deval T') o Hc = some (.val v2, Hc)) (h3 : ∀ d, o.dst = some d → v1 = tget T' d ∧ v2 = tget T' d)
structure PmOK (C : Ctx) (ops : Array Oper) (n ng tm ic hm : Nat) (T T1 T' : Tr Value) (H1 Hc : DH) (vc : Value) : Prop where
  ok : ∀ (i : Nat) (o : Oper), ops.toList[i]? = some o → opOk n ng o = true ∧ o.guard = none
  bnd : ∀ (i : Nat) (o : Oper), ops.toList[i]? = some o → ∀ e ∈ o.after, Region.binds .any e = true → e.on < i
  uniq : ∀ (i : Nat) (o : Oper) (j : Nat) (oj : Oper) (d : Nat), ops.toList[i]? = some o → ops.toList[j]? = some oj → o.dst = some d → oj.dst = some d → i = j
  dep : ∀ (i : Nat) (o : Oper) (t : Nat), ops.toList[i]? = some o → Operand.tmp t ∈ o.op.operands.toList → ∀ (j : Nat) (oj : Oper), ops.toList[j]? = some oj → oj.dst = some t → ∃ e ∈ o.after, Region.binds .any e = true ∧ e.on = j
  ins : ∀ (i : Nat) (o : Oper) (t : TypeId) (k : IntKind) (x : Int) (v : Operand), ops.toList[i]? = some o → insOf tm o = some (t, k, x, v) → ∀ (j : Nat) (oj : Oper) (t' : TypeId) (k' : IntKind) (x' : Int) (v' : Operand), ops.toList[j]? = some oj → insOf tm oj = some (t', k', x', v') → k = k' ∧ (x = x' → i = j)
  imap : ∀ (i : Nat) (o : Oper) (t : TypeId) (k : IntKind) (x : Int) (v : Operand), ops.toList[i]? = some o → i ≠ ic → i ≠ 0 → insOf tm o = some (t, k, x, v) → intMap C t = true
  zero : ∃ o, ops.toList[0]? = some o ∧ mkOf o = some tm
  tmv : tget T' tm = .map (some hm)
  h1 : H1.get hm = none
  hc : Hc.get hm = none
  ic0 : ic ≠ 0
  call : ∀ o, ops.toList[ic]? = some o → insOf tm o = none ∧ (∀ x ∈ o.op.operands.toList, deval T1 x = deval T' x) ∧ ∀ d, o.dst = some d → tget T' d = vc
  kind : ∀ (i : Nat) (o : Oper), ops.toList[i]? = some o → i ≠ ic → i ≠ 0 → PmKind C ops tm hm T' H1 Hc o
  out : ∀ t, (∀ (i : Nat) (o : Oper), ops.toList[i]? = some o → o.dst ≠ some t) → tget T' t = tget T t

theorem mkOf_spec {o : Oper} {d : Nat} (h : mkOf o = some d) : ∃ t, o.op = .makeMap t none ∧ o.dst = some d := by
  unfold mkOf at h
  split at h
  · rename_i t e; exact ⟨t, e, h⟩
  · cases h

theorem pval_dop {C : Ctx} {ops : Array Oper} {T : Tr Value} {o : Oper} {H : DH} {v : Value} (hl : looks o = true) (hg : o.guard = none) (h : pval C ops T o H = some v) : dop C (deval T) o H = some (.val v, H) := by
  unfold pval at h
  have hw : dwanted ops T o = true := by unfold dwanted; rw [hg]
  rw [hw] at h
  simp only at h
  split at h
  · rename_i v' H' hd
    split at h
    · rename_i hn
      cases h
      have := dop_looks hl hd hn
      rw [this] at hd
      exact hd
    · cases h
  · cases h

theorem pm_ok {C : Ctx} {ops : Array Oper} {n ng tm ic hm : Nat} {T T1 T' : Tr Value} {H1 Hc : DH} {vc : Value} (hs : pmStat n ng ops tm ic = true) (hd : pmDyn C ops tm ic hm T1 T' H1 Hc vc = true)
    (hout : ∀ t, (∀ (i : Nat) (o : Oper), ops.toList[i]? = some o → o.dst ≠ some t) → tget T' t = tget T t) : PmOK C ops n ng tm ic hm T T1 T' H1 Hc vc := by
  unfold pmStat at hs
  simp only [Bool.and_eq_true] at hs
  obtain ⟨hs, hpos⟩ := hs
  have hpos := Nat.le_of_ble_eq_true hpos
  unfold pmDyn at hd
  rw [Bool.and_eq_true] at hd
  obtain ⟨hd0, hd⟩ := hd
  have S := fun i o (ho : ops.toList[i]? = some o) => by
    have := pmAll_spec hs i o ho
    simp only [Nat.zero_add, Bool.and_eq_true] at this
    exact this
  have Dy := fun i o (ho : ops.toList[i]? = some o) => by
    have := pmAll_spec hd i o ho
    simp only [Nat.zero_add] at this
    exact this
  obtain ⟨o0, ho0⟩ : ∃ o0, ops.toList[0]? = some o0 := ⟨ops.toList[0], List.getElem?_eq_getElem hpos⟩
  have hins : ∀ (i : Nat) (o : Oper) (t : TypeId) (k : IntKind) (x : Int) (v : Operand), ops.toList[i]? = some o → insOf tm o = some (t, k, x, v) → ∀ (j : Nat) (oj : Oper) (t' : TypeId) (k' : IntKind) (x' : Int) (v' : Operand), ops.toList[j]? = some oj → insOf tm oj = some (t', k', x', v') → k = k' ∧ (x = x' → i = j) := by
    intro i o t k x v ho hi j oj t' k' x' v' hoj hij
    have := (S i o ho).1.2
    rw [hi] at this
    have := pmAll_spec this j oj hoj
    rw [hij] at this
    simp only [Nat.zero_add, Bool.and_eq_true, Bool.or_eq_true, decide_eq_true_eq, Bool.not_eq_true', decide_eq_false_iff_not] at this
    refine ⟨this.1, fun e => ?_⟩
    rcases this.2 with h | h
    · exact Nat.eq_of_beq_eq_true h
    · exact absurd e h
  have hic : ∀ o, ops.toList[ic]? = some o → insOf tm o = none ∧ ic ≠ 0 := by
    intro o ho
    have := (S ic o ho).2
    rw [Nat.beq_refl] at this
    simp only [Bool.and_eq_true, Option.isNone_iff_eq_none, Bool.not_eq_true'] at this
    exact ⟨this.1, fun e => by rw [e] at this; simp at this⟩
  have hic0 : ic ≠ 0 := by
    intro e
    subst e
    exact (hic o0 ho0).2 rfl
  have hne : ∀ {a b : Nat}, a ≠ b → Nat.beq a b = false := fun h => Tr.beq_false h
  have h1c : H1.get hm = none ∧ Hc.get hm = none := by
    split at hd0
    · rename_i e1 e2; exact ⟨e1, e2⟩
    · cases hd0
  refine ⟨fun i o ho => ?_, fun i o ho e he hb => ?_, fun i o j oj d ho hoj hd1 hd2 => ?_, fun i o t ho ht j oj hoj hdj => ?_, hins, fun i o t k x v ho hi0 hi1 hi => ?_, ⟨o0, ho0, ?_⟩, ?_, h1c.1, h1c.2, hic0, fun o ho => ⟨(hic o ho).1, ?_⟩, fun i o ho hi0 hi1 => ?_, hout⟩
  · have := (S i o ho).1.1.1.1.1
    exact ⟨this.1, by simpa using this.2⟩
  · have := (S i o ho).1.1.1.1.2
    rw [List.all_eq_true] at this
    have := this e (Array.mem_toList_iff.2 he)
    rw [hb] at this
    simpa using this
  · have := (S i o ho).1.1.1.2
    rw [hd1] at this
    have := pmAll_spec this j oj hoj
    rw [dstIs_true hd2] at this
    simp only [Nat.zero_add, Bool.not_true, Bool.false_or] at this
    exact Nat.eq_of_beq_eq_true this
  · have := (S i o ho).1.1.2
    unfold pmDep at this
    rw [List.all_eq_true] at this
    have := pmAll_spec (this _ ht) j oj hoj
    rw [dstIs_true hdj] at this
    simp only [Nat.zero_add, Bool.not_true, Bool.false_or] at this
    exact onIn_spec this
  · have := Dy i o ho
    rw [hne hi0, hne hi1, hi] at this
    exact this
  · have := (S 0 o0 ho0).2
    rw [hne (Ne.symm hic0)] at this
    simp only [Nat.beq_refl] at this
    cases hm0 : mkOf o0 with
    | none => rw [hm0] at this; cases this
    | some d =>
      rw [hm0] at this
      rw [Nat.eq_of_beq_eq_true this]
  · have := Dy 0 o0 ho0
    rw [hne (Ne.symm hic0)] at this
    simp only [Nat.beq_refl] at this
    split at this
    · rename_i h e
      rw [e, Nat.eq_of_beq_eq_true this]
    · cases this
  · have := Dy ic o ho
    rw [Nat.beq_refl] at this
    simp only [Bool.and_eq_true, List.all_eq_true] at this
    refine ⟨fun x hx => eqV_eq _ _ _ (this.1 x hx), fun d hd => ?_⟩
    have h2 := this.2
    rw [hd] at h2
    exact (eqV_eq _ _ _ h2).symm
  · have hS := (S i o ho).2
    have hD := Dy i o ho
    rw [hne hi0, hne hi1] at hS hD
    simp only at hS hD
    cases hins' : insOf tm o with
    | some q => exact .ins q hins'
    | none =>
      rw [hins'] at hS hD
      simp only at hS hD
      cases hlk : lkOf o with
      | some q =>
        obtain ⟨t, y, k, d⟩ := q
        rw [hlk] at hS hD
        simp only [Bool.and_eq_true] at hS hD
        obtain ⟨d1, d2⟩ := hD
        split at d2
        · rename_i h kk x e1 e2
          rw [Bool.and_eq_true] at d2
          obtain ⟨d3, d4⟩ := d2
          rw [Nat.eq_of_beq_eq_true d3] at e1
          split at d4
          · rename_i v hv
            rw [eqV_eq _ _ _ d4] at hv
            exact .lk t y k d kk x hlk hins' d1 e1 e2 hv hS
          · cases d4
        · cases d2
      | none =>
        rw [hlk] at hS hD
        simp only at hS hD
        split at hD
        · rename_i v v' e1 e2
          have hg : o.guard = none := by simpa using (S i o ho).1.1.1.1.1.2
          refine .look hins' v v' (pval_dop hS hg e1) (pval_dop hS hg e2) fun d hdd => ?_
          rw [hdd] at hD
          simp only [Bool.and_eq_true] at hD
          exact ⟨eqV_eq _ _ _ hD.1, eqV_eq _ _ _ hD.2⟩
        · cases hD

theorem getD_set' {listed : Array Bool} {i : Nat} (h : i < listed.size) (j : Nat) : (listed.setIfInBounds i true).getD j false = if j = i then true else listed.getD j false := by
  by_cases e : j = i
  · subst e
    rw [if_pos rfl]
    simp [Array.getD_eq_getD_getElem?, h]
  · rw [if_neg e]
    simp [Array.getD_eq_getD_getElem?, Array.getElem?_setIfInBounds_ne (Ne.symm e)]
def pmEnt (ops : Array Oper) (tm : Nat) (T' : Tr Value) (j : Nat) : Value × Value :=
  match ops.toList[j]? with
  | some o => (match insOf tm o with | some (_, k, x, v) => (.int k x, deval T' v) | none => (undef, undef))
  | none => (undef, undef)
theorem pmEnt_eq {ops : Array Oper} {tm : Nat} {T' : Tr Value} {j : Nat} {o : Oper} {t : TypeId} {k : IntKind} {x : Int} {v : Operand} (h : ops.toList[j]? = some o) (hi : insOf tm o = some (t, k, x, v)) : pmEnt ops tm T' j = (.int k x, deval T' v) := by
  unfold pmEnt; rw [h]; simp only [hi]
section
variable {P : Program} {C : Ctx} (hC : CtxOK P C) {ng n tm ic hm : Nat} {D : List Deferred} {ops : Array Oper} {T T1 T' : Tr Value} {H0 H1 Hc : DH} {vc : Value} {β0 : Emb} {w0 : World}
/-- The temporaries, and what is done. -/
structure PmJ (ops : Array Oper) (ng n : Nat) (D : List Deferred) (T T' : Tr Value) (β : Emb) (a : Act) (listed : Array Bool) (rest : List Nat) : Prop where
  nodup : rest.Nodup
  mem : ∀ i, i ∈ rest ↔ i < ops.size ∧ listed.getD i false = false
  lsize : listed.size = ops.size
  clo : ∀ (i : Nat) (o : Oper), ops.toList[i]? = some o → listed.getD i false = true → ∀ e ∈ o.after, Region.binds .any e = true → listed.getD e.on false = true
  size : a.tmps.size = n
  defers : a.defers = D
  glob : GOK ng β
  tmp1 : ∀ (i : Nat) (o : Oper) (d : Nat), ops.toList[i]? = some o → o.dst = some d → listed.getD i false = true → V β (tget T' d) (a.tmps.getD d undef)
  tmp2 : ∀ t, (∀ (i : Nat) (o : Oper), ops.toList[i]? = some o → o.dst ≠ some t) → V β (tget T t) (a.tmps.getD t undef)
/-- The memory. -/
structure PmM (ops : Array Oper) (tm ic hm : Nat) (T' : Tr Value) (H0 H1 Hc : DH) (β0 : Emb) (w0 : World) (β : Emb) (w : World) (listed : Array Bool) (hx : DH) : Prop where
  hxe : hx = if listed.getD ic false = true then Hc else H1
  hn : H0.n < hx.n
  st : (listed.getD 0 false = false ∧ β hm = none ∧ R β hx w ∧ Ext β0 H0 w0 β hx w) ∨
    (listed.getD 0 false = true ∧ (∃ bi, β hm = some bi) ∧ ∃ σ : List Nat, (∀ j ∈ σ, listed.getD j false = true ∧ ∃ o q, ops.toList[j]? = some o ∧ insOf tm o = some q) ∧ (∀ (j : Nat) (o : Oper) q, ops.toList[j]? = some o → insOf tm o = some q → listed.getD j false = true → j ∈ σ) ∧
      R β (hx.set hm (some (.map (σ.map (pmEnt ops tm T'))))) w ∧ Ext β0 H0 w0 β (hx.set hm (some (.map (σ.map (pmEnt ops tm T'))))) w)

theorem ready_spec {i : Nat} {listed : Array Bool} (hl : listed.size = ops.size) (hi : i ∈ Region.ready .any ops listed) : i < ops.size ∧ listed.getD i false = false ∧ ∃ o, ops.toList[i]? = some o ∧ ops[i]? = some o ∧ ∀ e ∈ o.after, Region.binds .any e = true → listed.getD e.on false = true := by
  rw [mem_ready] at hi
  obtain ⟨h0, o, ho, he⟩ := hi
  have hlt : i < ops.size := (Array.getElem?_eq_some_iff.1 ho).1
  refine ⟨hlt, ?_, o, by rw [Array.getElem?_toList]; exact ho, ho, he⟩
  have h4 : i < listed.size := by rw [hl]; exact hlt
  simp only [Array.getD_eq_getD_getElem?, Array.getElem?_eq_getElem h4, Option.getD_some] at h0 ⊢
  exact h0

theorem PmJ.opds (hK : PmOK C ops n ng tm ic hm T T1 T' H1 Hc vc) {β : Emb} {a : Act} {listed : Array Bool} {rest : List Nat} (hJ : PmJ ops ng n D T T' β a listed rest) {i : Nat} {o : Oper} (ho : ops.toList[i]? = some o) (hr : ∀ e ∈ o.after, Region.binds .any e = true → listed.getD e.on false = true) :
    ∀ x ∈ o.op.operands.toList, V β (deval T' x) (a.eval x) := by
  refine opds_rel (ops := ops) hJ.glob (hK.ok i o ho).1 fun t ht => ?_
  have hmem : Operand.tmp t ∈ o.op.operands.toList := by
    unfold Oper.looksAt at ht
    rw [(hK.ok i o ho).2] at ht
    simp only [List.append_nil, List.mem_filterMap] at ht
    obtain ⟨x, hx, he⟩ := ht
    cases x <;> simp at he
    subst he; exact hx
  by_cases h : ∃ (j : Nat) (oj : Oper), ops.toList[j]? = some oj ∧ oj.dst = some t
  · obtain ⟨j, oj, h1, h2⟩ := h
    obtain ⟨e, he, hb, hj⟩ := hK.dep i o t ho hmem j oj h1 h2
    subst hj
    exact hJ.tmp1 _ oj t h1 h2 (hr e he hb)
  · have h' : ∀ (j : Nat) (oj : Oper), ops.toList[j]? = some oj → oj.dst ≠ some t := fun j oj h1 h2 => h ⟨j, oj, h1, h2⟩
    rw [hK.out t h']
    exact hJ.tmp2 t h'

theorem PmJ.step (hK : PmOK C ops n ng tm ic hm T T1 T' H1 Hc vc) {β β' : Emb} {a : Act} {listed : Array Bool} {rest : List Nat} (hJ : PmJ ops ng n D T T' β a listed rest) {i : Nat} {o : Oper} (ho : ops.toList[i]? = some o) (hr : ∀ e ∈ o.after, Region.binds .any e = true → listed.getD e.on false = true)
    (hlt : i < ops.size) (hle : EmbLe β β') {v' : Value} (hv : ∀ d, o.dst = some d → V β' (tget T' d) v') : PmJ ops ng n D T T' β' (a.put o.dst v') (listed.setIfInBounds i true) (rest.erase i) := by
  have hls : i < listed.size := by rw [hJ.lsize]; exact hlt
  have hsz : ∀ d, o.dst = some d → d < a.tmps.size := by
    intro d hd
    have := (hK.ok i o ho).1
    simp only [opOk, hd, Bool.and_eq_true] at this
    rw [hJ.size]
    exact Nat.le_of_ble_eq_true this.2
  refine ⟨hJ.nodup.erase i, fun j => ?_, by simpa using hJ.lsize, fun j oj hoj hl e he hb => ?_, by rw [size_put]; exact hJ.size, by rw [defers_put]; exact hJ.defers, hJ.glob.mono hle, fun j oj d hoj hd hl => ?_, fun t ht => ?_⟩
  · rw [hJ.nodup.mem_erase_iff, hJ.mem, getD_set' hls]
    by_cases e : j = i
    · subst e; simp
    · simp [e]
  · rw [getD_set' hls] at hl ⊢
    split
    · rfl
    · by_cases e2 : j = i
      · subst e2
        rw [ho] at hoj; cases hoj
        exact hr e he hb
      · rw [if_neg e2] at hl
        exact hJ.clo j oj hoj hl e he hb
  · rw [getD_put a _ _ _ hsz]
    by_cases e : o.dst = some d
    · rw [if_pos e]; exact hv d e
    · rw [if_neg e]
      rw [getD_set' hls] at hl
      have hne : j ≠ i := fun e2 => by subst e2; rw [ho] at hoj; cases hoj; exact e hd
      rw [if_neg hne] at hl
      exact (hJ.tmp1 j oj d hoj hd hl).mono hle
  · rw [getD_put a _ _ _ hsz, if_neg (ht i o ho)]
    exact (hJ.tmp2 t ht).mono hle

include hC
theorem pm_wp (hhm : hm = 2 * H0.n) (hH1 : H1 = H0.bump) {call : Calling} (hcall : CallOK P ng call) (hK : PmOK C ops n ng tm ic hm T T1 T' H1 Hc vc) {oc : Oper} (hoc : ops.toList[ic]? = some oc) (hsc : stepOp C call oc T1 H1 = some (.ret vc, Hc)) :
    ∀ (fuel : Nat) (listed : Array Bool) (a : Act) (w : World) (β : Emb) (rest : List Nat) (hx : DH), PmJ ops ng n D T T' β a listed rest → PmM ops tm ic hm T' H0 H1 Hc β0 w0 β w listed hx → fuel = rest.length →
    wpAny P .any ops (Post ng n D β0 H0 w0 .normal T' Hc) fuel listed a w := by
  have hxg : ∀ {β : Emb} {w : World} {listed : Array Bool} {hx : DH}, PmM ops tm ic hm T' H0 H1 Hc β0 w0 β w listed hx → hx.get hm = none := by
    intro β w listed hx hM
    rw [hM.hxe]; split
    · exact hK.hc
    · exact hK.h1
  -- everything is done
  have fin : ∀ (listed : Array Bool) (a : Act) (w : World) (β : Emb) (rest : List Nat) (hx : DH), PmJ ops ng n D T T' β a listed rest → PmM ops tm ic hm T' H0 H1 Hc β0 w0 β w listed hx → rest = [] → Post ng n D β0 H0 w0 .normal T' Hc .normal a w := by
    intro listed a w β rest hx hJ hM hr
    subst hr
    have all : ∀ (i : Nat) (o : Oper), ops.toList[i]? = some o → listed.getD i false = true := by
      intro i o ho
      have hlt : i < ops.size := by rw [Array.getElem?_toList] at ho; exact (Array.getElem?_eq_some_iff.1 ho).1
      cases hl : listed.getD i false with
      | true => rfl
      | false => exact absurd ((hJ.mem i).2 ⟨hlt, hl⟩) (by simp)
    have hxc : hx = Hc := by rw [hM.hxe, if_pos (all ic oc hoc)]
    subst hxc
    have hmem : R β hx w ∧ Ext β0 H0 w0 β hx w := by
      rcases hM.st with ⟨h1, h2, h3, h4⟩ | ⟨h1, h2, σ, h3, h4, h5, h6⟩
      · exact ⟨h3, h4⟩
      · exact ⟨h5.less hK.hc, h6.less hK.hc⟩
    refine ⟨β, trivial, fun _ => ⟨fun t => ?_, hJ.size, hJ.defers, hJ.glob⟩, hJ.defers, hmem.1, hmem.2⟩
    by_cases h : ∃ (j : Nat) (oj : Oper), ops.toList[j]? = some oj ∧ oj.dst = some t
    · obtain ⟨j, oj, h1, h2⟩ := h
      exact hJ.tmp1 j oj t h1 h2 (all j oj h1)
    · have h' : ∀ (j : Nat) (oj : Oper), ops.toList[j]? = some oj → oj.dst ≠ some t := fun j oj h1 h2 => h ⟨j, oj, h1, h2⟩
      rw [hK.out t h']
      exact hJ.tmp2 t h'
  intro fuel
  induction fuel with
  | zero =>
    intro listed a w β rest hx hJ hM hf
    have hr : rest = [] := List.eq_nil_of_length_eq_zero hf.symm
    refine ⟨?_, fin listed a w β rest hx hJ hM hr⟩
    cases hrd : Region.ready .any ops listed with
    | nil => rfl
    | cons i l =>
      obtain ⟨h1, h2, -⟩ := ready_spec hJ.lsize (i := i) (by rw [hrd]; exact List.mem_cons_self)
      have := (hJ.mem i).2 ⟨h1, h2⟩
      rw [hr] at this; cases this
  | succ fuel ih =>
    intro listed a w β rest hx hJ hM hf
    refine ⟨fun hnil => ?_, fun i hi => ?_⟩
    · exfalso
      have all : ∀ i, i < ops.size → listed.getD i false = true := by
        intro i
        induction i using Nat.strongRecOn with
        | _ i ihi =>
          intro hi
          cases hl : listed.getD i false with
          | true => rfl
          | false =>
            exfalso
            have hmem : i ∈ Region.ready .any ops listed := by
              rw [mem_ready]
              refine ⟨?_, ops[i], by rw [Array.getElem?_eq_getElem hi], fun e he hb => ?_⟩
              · have h4 : i < listed.size := by rw [hJ.lsize]; exact hi
                simp only [Array.getD_eq_getD_getElem?, Array.getElem?_eq_getElem h4, Option.getD_some] at hl ⊢
                exact hl
              · have h5 := hK.bnd i ops[i] (by rw [Array.getElem?_toList, Array.getElem?_eq_getElem hi]) e he hb
                exact ihi e.on h5 (Nat.lt_trans h5 hi)
            rw [hnil] at hmem; cases hmem
      obtain ⟨j, hj⟩ := List.exists_mem_of_ne_nil rest (fun e => by rw [e] at hf; simp at hf)
      have h5 := (hJ.mem j).1 hj
      rw [all j h5.1] at h5
      simp at h5
    · obtain ⟨hlt, hun, o, ho, ho', hr⟩ := ready_spec hJ.lsize hi
      have hls : i < listed.size := by rw [hJ.lsize]; exact hlt
      have hops := hJ.opds hK ho hr
      have hf2 : fuel = (rest.erase i).length := by
        rw [List.length_erase_of_mem ((hJ.mem i).2 ⟨hlt, hun⟩)]; omega
      unfold wpOp
      rw [ho']
      simp only
      have hwant : Region.wanted o (yielded ops a.tmps) = true := by unfold Region.wanted; rw [(hK.ok i o ho).2]
      rw [if_pos hwant]
      refine .inl ?_
      have hget := hxg hM
      have hhm2 : hm = 2 * H0.n := hhm
      by_cases hic : i = ic
      · -- the call
        subst hic
        have hoeq : o = oc := by rw [ho] at hoc; exact Option.some.inj hoc
        subst hoeq
        have hhx : hx = H1 := by rw [hM.hxe, hun]; simp
        subst hhx
        obtain ⟨hcI, hcO, hcD⟩ := hK.call o ho
        have hR : R β hx w := by
          rcases hM.st with ⟨h1, h2, h3, h4⟩ | ⟨h1, h2, σ, h3, h4, h5, h6⟩
          · exact h3
          · exact h5.less hget
        refine stepOp_sound hC hcall hJ.glob hR (fun x hx => by rw [hcO x hx]; exact hops x hx) hsc ?_ ?_
        · intro v v' w' β' hv r1 r2 r3
          cases hv
          have hJ' := hJ.step hK ho hr hlt r3.sub (v' := v') (fun d hd => by rw [hcD d hd]; exact r1)
          refine ih _ _ _ β' _ Hc hJ' ⟨by rw [getD_set' hls, if_pos rfl]; simp, Nat.lt_of_lt_of_le hM.hn r3.n, ?_⟩ hf2
          rcases hM.st with ⟨h1, h2, h3, h4⟩ | ⟨h1, h2, σ, h3, h4, h5, h6⟩
          · refine .inl ⟨by rw [getD_set' hls, if_neg (Ne.symm hK.ic0)]; exact h1, ?_, r2, h4.trans r3⟩
            exact r3.none_of hhm2 hM.hn h2
          · obtain ⟨q1, q2⟩ := h5.again hget hK.hc r3 r2 h2
            refine .inr ⟨by rw [getD_set' hls, if_neg (Ne.symm hK.ic0)]; exact h1, ?_, σ, fun j hj => ?_, fun j oj q hoj hq hl => ?_, q1, h6.trans q2⟩
            · obtain ⟨bi, hbi⟩ := h2; exact ⟨bi, r3.sub _ _ hbi⟩
            · obtain ⟨g1, g2⟩ := h3 j hj
              exact ⟨by rw [getD_set' hls]; split <;> first | rfl | exact g1, g2⟩
            · rw [getD_set' hls] at hl
              by_cases e : j = i
              · subst e; rw [ho] at hoj; cases hoj; rw [hcI] at hq; cases hq
              · rw [if_neg e] at hl; exact h4 j oj q hoj hq hl
        · intro v v' w' β' hv; cases hv
      · have hhx' : ∀ (l : Array Bool), l = listed.setIfInBounds i true → (if l.getD ic false = true then Hc else H1) = hx := by
          intro l hl
          subst hl
          rw [getD_set' hls, if_neg (Ne.symm hic)]
          exact hM.hxe.symm
        by_cases hi0 : i = 0
        · -- the map is made
          subst hi0
          obtain ⟨o2, hz1, hz2⟩ := hK.zero
          rw [ho] at hz1; cases hz1
          obtain ⟨t, hop, hdst⟩ := mkOf_spec hz2
          rcases hM.st with ⟨h1, h2, h3, h4⟩ | ⟨h1, -⟩
          · have hal : allocs o = true := by unfold allocs; rw [hop]
            have hdop : dop C (deval T') o H0 = some (.val (.map (some (2 * H0.n))), H0.alloc (.map [])) := by unfold dop; rw [hop]
            obtain ⟨ob, x, size, v', e1, e2, e3⟩ := alloc_raw hC hal hdop hops w
            have e4 : ob = .map [] := by
              have := congrArg (fun X : DH => X.get (2 * H0.n)) e1
              simpa using this.symm
            subst e4
            rw [← hhm] at e3
            obtain ⟨f1, f2⟩ := e3 (embAdd β hm ⟨w.heap.size, 0, size⟩) (embAdd_le h2) (embAdd_same _ _ _)
            have hRk := h3.known h2 (.map [])
            obtain ⟨g1, g2, g3⟩ := hRk.late h2 ⟨H0.n, hhm, hM.hn⟩ (by simp) x size f2
            have hE := Ext.late (h4.known h2 (.map [])) hhm (Nat.le_refl _) h2 x size
            unfold Oper.wp
            rw [e2]
            have hJ' := hJ.step hK ho hr hlt g2 (v' := v') (fun d hd => by rw [hdst] at hd; cases hd; rw [hK.tmv]; exact f1)
            refine ih _ _ _ _ _ hx hJ' ⟨(hhx' _ rfl).symm, hM.hn, .inr ⟨by rw [getD_set' hls, if_pos rfl], ⟨_, embAdd_same _ _ _⟩, [], fun j hj => (by cases hj), fun j oj q hoj hq hl => ?_, g1, hE⟩⟩ hf2
            exfalso
            rw [getD_set' hls] at hl
            by_cases e : j = 0
            · subst e
              rw [ho] at hoj; cases hoj
              obtain ⟨qt, qk, qx, qv⟩ := q
              rw [(insOf_spec hq).1] at hop; cases hop
            · rw [if_neg e] at hl
              obtain ⟨qt, qk, qx, qv⟩ := q
              have hmm : Operand.tmp tm ∈ oj.op.operands.toList := by rw [(insOf_spec hq).1]; simp [Op.operands]
              obtain ⟨e, he, hb, he0⟩ := hK.dep j oj tm hoj hmm 0 o ho hdst
              have := hJ.clo j oj hoj hl e he hb
              rw [he0, h1] at this; cases this
          · rw [hun] at h1; cases h1
        · -- the others
          have keepσ : ∀ {σ : List Nat}, (∀ j ∈ σ, listed.getD j false = true ∧ ∃ o q, ops.toList[j]? = some o ∧ insOf tm o = some q) → ∀ j ∈ σ, (listed.setIfInBounds i true).getD j false = true ∧ ∃ o q, ops.toList[j]? = some o ∧ insOf tm o = some q := by
            intro σ h j hj
            obtain ⟨g1, g2⟩ := h j hj
            exact ⟨by rw [getD_set' hls]; split <;> first | rfl | exact g1, g2⟩
          have keepσ2 : insOf tm o = none → ∀ {σ : List Nat}, (∀ (j : Nat) (o : Oper) q, ops.toList[j]? = some o → insOf tm o = some q → listed.getD j false = true → j ∈ σ) → ∀ (j : Nat) (o : Oper) q, ops.toList[j]? = some o → insOf tm o = some q → (listed.setIfInBounds i true).getD j false = true → j ∈ σ := by
            intro hno σ h j oj q hoj hq hl
            rw [getD_set' hls] at hl
            by_cases e : j = i
            · subst e; rw [ho] at hoj; cases hoj; rw [hno] at hq; cases hq
            · rw [if_neg e] at hl; exact h j oj q hoj hq hl
          have l0 : ∀ {b : Bool}, listed.getD 0 false = b → (listed.setIfInBounds i true).getD 0 false = b := by
            intro b hb; rw [getD_set' hls, if_neg (Ne.symm hi0)]; exact hb
          cases hK.kind i o ho hic hi0 with
          | look hno v1 v2 hd1 hd2 hdd =>
            obtain ⟨v, hd, hvd⟩ : ∃ v, dop C (deval T') o hx = some (.val v, hx) ∧ ∀ d, o.dst = some d → v = tget T' d := by
              have := hM.hxe
              split at this
              · subst this; exact ⟨v2, hd2, fun d h => (hdd d h).2⟩
              · subst this; exact ⟨v1, hd1, fun d h => (hdd d h).1⟩
            have hR : R β hx w := by
              rcases hM.st with ⟨h1, h2, h3, h4⟩ | ⟨h1, h2, σ, h3, h4, h5, h6⟩
              · exact h3
              · exact h5.less hget
            obtain ⟨w', β', ⟨v', hrn, hv⟩, r2, r3⟩ := dop_sound hC hd hops hR
            unfold Oper.wp
            rw [hrn]
            have hJ' := hJ.step hK ho hr hlt r3.sub (v' := v') (fun d hd => by rw [← hvd d hd]; exact hv)
            refine ih _ _ _ β' _ hx hJ' ⟨(hhx' _ rfl).symm, hM.hn, ?_⟩ hf2
            rcases hM.st with ⟨h1, h2, h3, h4⟩ | ⟨h1, h2, σ, h3, h4, h5, h6⟩
            · exact .inl ⟨l0 h1, r3.none_of hhm2 hM.hn h2, r2, h4.trans r3⟩
            · obtain ⟨q1, q2⟩ := h5.again hget hget r3 r2 h2
              refine .inr ⟨l0 h1, ?_, σ, keepσ h3, keepσ2 hno h4, q1, h6.trans q2⟩
              obtain ⟨bi, hbi⟩ := h2; exact ⟨bi, r3.sub _ _ hbi⟩
          | ins q hq =>
            obtain ⟨t, k, x, v⟩ := q
            obtain ⟨hop, hdst⟩ := insOf_spec hq
            obtain ⟨o2, hz1, hz2⟩ := hK.zero
            obtain ⟨t0, hop0, hdst0⟩ := mkOf_spec hz2
            have hmm : Operand.tmp tm ∈ o.op.operands.toList := by rw [hop]; simp [Op.operands]
            obtain ⟨e, he, hb, he0⟩ := hK.dep i o tm ho hmm 0 o2 hz1 hdst0
            have hl0 := hr e he hb
            rw [he0] at hl0
            rcases hM.st with ⟨h1, -⟩ | ⟨h1, h2, σ, h3, h4, h5, h6⟩
            · rw [hl0] at h1; cases h1
            · have hkeys : ∀ p ∈ σ.map (pmEnt ops tm T'), ∃ y, p.1 = .int k y ∧ y ≠ x := by
                intro p hp
                obtain ⟨j, hj, rfl⟩ := List.mem_map.1 hp
                obtain ⟨g1, oj, q, g2, g3⟩ := h3 j hj
                obtain ⟨t', k', x', v'⟩ := q
                rw [pmEnt_eq g2 g3]
                obtain ⟨c1, c2⟩ := hK.ins i o t k x v ho hq j oj t' k' x' v' g2 g3
                subst c1
                refine ⟨x', rfl, fun e => ?_⟩
                have := c2 e.symm
                subst this
                rw [hun] at g1; cases g1
              have hdop : dop C (deval T') o (hx.set hm (some (.map (σ.map (pmEnt ops tm T'))))) = some (.skip, (hx.set hm (some (.map (σ.map (pmEnt ops tm T'))))).set hm (some (.map (σ.map (pmEnt ops tm T') ++ [(.int k x, deval T' v)])))) := by
                unfold dop
                rw [hop]
                have e1 : deval T' (.tmp tm) = .map (some hm) := hK.tmv
                have e2 : deval T' (.const (.int k x)) = .int k x := rfl
                simp only [e1, e2, okH]
                rw [dins (hK.imap i o t k x v ho hic hi0 hq) k x (deval T' v) (by simp) hkeys]
                rfl
              obtain ⟨w', β', hrn, r2, r3⟩ := dop_sound hC hdop hops h5
              simp only [OpRes] at hrn
              unfold Oper.wp
              rw [hrn]
              have hJ' := hJ.step hK ho hr hlt r3.sub (v' := undef) (fun d hd => by rw [hdst] at hd; cases hd)
              have hsame : ∀ h, (hx.set hm (some (.map ((σ ++ [i]).map (pmEnt ops tm T'))))).get h = ((hx.set hm (some (.map (σ.map (pmEnt ops tm T'))))).set hm (some (.map (σ.map (pmEnt ops tm T') ++ [(.int k x, deval T' v)])))).get h := by
                intro h
                simp only [DH.get_set, List.map_append, List.map_cons, List.map_nil, pmEnt_eq ho hq]
                split <;> rfl
              refine ih _ _ _ β' _ hx hJ' ⟨(hhx' _ rfl).symm, hM.hn, .inr ⟨l0 h1, ?_, σ ++ [i], fun j hj => ?_, fun j oj q hoj hq2 hl => ?_, r2.congr hsame rfl, h6.trans (r3.congr hsame rfl)⟩⟩ hf2
              · obtain ⟨bi, hbi⟩ := h2; exact ⟨bi, r3.sub _ _ hbi⟩
              · rcases List.mem_append.1 hj with hj | hj
                · exact keepσ h3 j hj
                · rw [List.mem_singleton] at hj
                  subst hj
                  exact ⟨by rw [getD_set' hls, if_pos rfl], o, _, ho, hq⟩
              · rw [getD_set' hls] at hl
                by_cases e : j = i
                · subst e; simp
                · rw [if_neg e] at hl
                  exact List.mem_append_left _ (h4 j oj q hoj hq2 hl)
          | lk t y k d kk x hl1 hno himap hy hk hval hpre =>
            obtain ⟨hop, hdst⟩ := lkOf_spec hl1
            -- all inserts are done
            have hpre' : ∀ (j : Nat) (oj : Oper), ops.toList[j]? = some oj → (j = 0 ∨ ∃ q, insOf tm oj = some q) → listed.getD j false = true := by
              intro j oj hoj hjq
              have := pmAll_spec hpre j oj hoj
              simp only [Nat.zero_add, Bool.or_eq_true] at this
              have hno' : ¬ (match insOf tm oj with | some _ => false | none => !Nat.beq j 0) = true := by
                intro hh
                rcases hjq with e | ⟨q, hq⟩
                · subst e
                  cases hi : insOf tm oj with
                  | none => rw [hi] at hh; simp at hh
                  | some q => rw [hi] at hh; cases hh
                · rw [hq] at hh; cases hh
              rcases this with (h | h) | h
              · exact absurd h hno'
              · obtain ⟨e, he, hb, hj⟩ := onIn_spec h
                subst hj; exact hr e he hb
              · rw [List.any_eq_true] at h
                obtain ⟨e, he, hb⟩ := h
                rw [Bool.and_eq_true] at hb
                obtain ⟨hb1, hb2⟩ := hb
                split at hb2
                · rename_i oe hoe
                  obtain ⟨e2, he2, hb3, hj⟩ := onIn_spec hb2
                  subst hj
                  exact hJ.clo e.on oe hoe (hr e (Array.mem_toList_iff.1 he) hb1) e2 he2 hb3
                · cases hb2
            obtain ⟨o2, hz1, hz2⟩ := hK.zero
            have hl0 := hpre' 0 o2 hz1 (.inl rfl)
            rcases hM.st with ⟨h1, -⟩ | ⟨h1, h2, σ, h3, h4, h5, h6⟩
            · rw [hl0] at h1; cases h1
            · obtain ⟨j, oj, tj, vj, g1, g2, g3⟩ := pmVal_spec hval
              have hjσ := h4 j oj _ g1 g2 (hpre' j oj g1 (.inr ⟨_, g2⟩))
              have hA : ∀ p ∈ σ.map (pmEnt ops tm T'), ∃ y, p.1 = .int kk y ∧ (y = x → p.2 = tget T' d) := by
                intro p hp
                obtain ⟨j2, hj2, rfl⟩ := List.mem_map.1 hp
                obtain ⟨f1, oj2, q, f2, f3⟩ := h3 j2 hj2
                obtain ⟨t', k', x', v'⟩ := q
                rw [pmEnt_eq f2 f3]
                obtain ⟨c1, c2⟩ := hK.ins j oj tj kk x vj g1 g2 j2 oj2 t' k' x' v' f2 f3
                subst c1
                refine ⟨x', rfl, fun e => ?_⟩
                have := c2 e.symm
                subst this
                rw [g1] at f2; cases f2
                rw [g2] at f3; cases f3
                exact g3
              have hB : (Value.int kk x, tget T' d) ∈ σ.map (pmEnt ops tm T') := by
                refine List.mem_map.2 ⟨j, hjσ, ?_⟩
                rw [pmEnt_eq (T' := T') g1 g2, g3]
              have hdop : dop C (deval T') o (hx.set hm (some (.map (σ.map (pmEnt ops tm T'))))) = some (.val (tget T' d), hx.set hm (some (.map (σ.map (pmEnt ops tm T'))))) := by
                unfold dop
                rw [hop]
                simp only [hy, hk, okV]
                rw [dlk himap kk x (tget T' d) (H := hx.set hm (some (.map (σ.map (pmEnt ops tm T'))))) (by simp) hA hB]
                rfl
              obtain ⟨w', β', ⟨v', hrn, hv⟩, r2, r3⟩ := dop_sound hC hdop hops h5
              unfold Oper.wp
              rw [hrn]
              have hJ' := hJ.step hK ho hr hlt r3.sub (v' := v') (fun d' hd => by rw [hdst] at hd; cases hd; exact hv)
              refine ih _ _ _ β' _ hx hJ' ⟨(hhx' _ rfl).symm, hM.hn, .inr ⟨l0 h1, ?_, σ, keepσ h3, keepσ2 hno h4, r2, h6.trans r3⟩⟩ hf2
              obtain ⟨bi, hbi⟩ := h2; exact ⟨bi, r3.sub _ _ hbi⟩

theorem evalPm_sound (hm' : P.follows .mixedOrders = true) {call : Calling} (hcall : CallOK P ng call) {id : Nat} {β : Emb} {H : DH} {w : World} {a : Act} {e : DExit} {H' : DH} (hs : pmStat n ng ops tm ic = true) (hT : TR ng β n D T a) (hR : R β H w)
    (h : evalPm C call ops tm ic T H = some (e, T', H')) : (Code.region id ops true).wp P (Post ng n D β H w e T' H') a w := by
  unfold evalPm at h
  simp only at h
  split at h
  · cases h
  · rename_i T1 hq1
    split at h
    · cases h
    · rename_i oc hoc
      split at h
      · rename_i v Hc hsc
        split at h
        · rename_i T2 hq2
          split at h
          · rename_i hd
            cases h
            have hout : ∀ t, (∀ (i : Nat) (o : Oper), ops.toList[i]? = some o → o.dst ≠ some t) → tget T' t = tget T t := by
              intro t ht
              have a1 : ∀ o ∈ ops.toList.drop (ic + 1), o.dst ≠ some t := fun o ho => by
                obtain ⟨i, hi⟩ := List.getElem?_of_mem (List.mem_of_mem_drop ho)
                exact ht i o hi
              have a2 : ∀ o ∈ ops.toList.take ic, o.dst ≠ some t := fun o ho => by
                obtain ⟨i, hi⟩ := List.getElem?_of_mem (List.mem_of_mem_take ho)
                exact ht i o hi
              rw [pmSeq_out hq2 t a1, tget_dput, if_neg (ht ic oc hoc), pmSeq_out hq1 t a2]
            have hK := pm_ok (T := T) hs hd hout
            refine wp_region_any hm' ?_
            have hrep : ∀ i, (Array.replicate ops.size false).getD i false = false := by
              intro i
              by_cases hlt : i < ops.size
              · simp [Array.getD_eq_getD_getElem?, hlt]
              · simp [Array.getD_eq_getD_getElem?, hlt]
            have hrf : ∀ i, (Array.replicate ops.size false).getD i false = true → False := fun i h => by rw [hrep i] at h; cases h
            have hJ : PmJ ops ng n D T T' β a (Array.replicate ops.size false) (List.range ops.size) :=
              ⟨List.nodup_range, fun i => ⟨fun h => ⟨List.mem_range.1 h, hrep i⟩, fun h => List.mem_range.2 h.1⟩, by simp, fun i o ho hl => (hrf i hl).elim, hT.size, hT.defers, hT.glob, fun i o d ho hd2 hl => (hrf i hl).elim, fun t _ => hT.val t⟩
            exact pm_wp hC (H0 := H) rfl rfl hcall hK hoc hsc ops.size _ a _ β (List.range ops.size) H.bump hJ
              ⟨by rw [hrep]; simp, by simp, .inl ⟨hrep 0, hR.fresh _ (Nat.le_refl _), (hR.draw _).bump, (Ext.draw β H w _).trans (Ext.bump β H _)⟩⟩ (by simp)
          · cases h
        · cases h
      · cases h
end
end
end Go.Ds
