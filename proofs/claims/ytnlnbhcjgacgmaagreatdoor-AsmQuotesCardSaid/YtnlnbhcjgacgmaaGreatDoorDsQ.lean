/- A deterministic layer over the model, part Q: regions whose order is drawn, sound. -/
import Derived.Test.YtnlnbhcjgacgmaaGreatDoorDsP
set_option linter.unusedVariables false
set_option linter.unusedSimpArgs false
namespace Go.Ds
noncomputable section

section
variable {P : Program} {C : Ctx} (hC : CtxOK P C) {n0 ng n : Nat} {D : List Deferred} {ops : Array Oper} {L M : List Nat} (hD : DrawOK n ng ops L M)
include hD

omit hD in
theorem listed_set {listed : Array Bool} {i j : Nat} (hj : j < listed.size) : (listed.setIfInBounds i true).getD j true = false ↔ listed.getD j true = false ∧ j ≠ i := by
  by_cases e : i = j
  · subst e
    simp [Array.getD_eq_getD_getElem?, hj]
  · rw [getD_set_ne true e]
    exact ⟨fun h => ⟨h, Ne.symm e⟩, fun h => h.1⟩

/-- One of the pending ones is done. -/
theorem Inv.done {β β' : Emb} {H : DH} {w w' : World} {T : Tr Value} {a : Act} {listed : Array Bool} {U1 U2 : List Pn} {p : Pn} {rest : List Nat} {Pd : List Pn} (h : Inv C ops M n0 ng n D β H w T a listed (U1 ++ p :: U2) rest Pd)
    (hi : p.i ∈ Region.ready .any ops listed) {v' : Value} (hv : V β' p.v v') (hle : EmbLe β β') (hR : R β' H w') (hno : ∀ q ∈ U1 ++ U2, ∀ hh ob, q.al = some (hh, ob) → β' hh = none) :
    Inv C ops M n0 ng n D β' H w' T (a.put p.o.dst v') (listed.setIfInBounds p.i true) (U1 ++ U2) rest Pd := by
  have hpm : p ∈ U1 ++ p :: U2 := by simp
  have inU : ∀ q, q ∈ U1 ++ U2 → q ∈ U1 ++ p :: U2 := fun q hq => by simp at hq ⊢; rcases hq with h | h <;> simp [h]
  have ofU : ∀ q, q ∈ U1 ++ p :: U2 → q = p ∨ q ∈ U1 ++ U2 := fun q hq => by simp at hq ⊢; rcases hq with h | h | h <;> simp [h]
  obtain ⟨hlt, -, hah⟩ := h.ahead hD hi
  have hpair : ∀ q ∈ U1 ++ U2, pairOk ops M q.i p.i = true ∨ pairOk ops M p.i q.i = true := by
    have h1 := (List.pairwise_append.1 h.pair).1
    rw [List.map_append, List.map_cons, List.pairwise_append, List.pairwise_cons] at h1
    obtain ⟨-, ⟨h2, -⟩, h3⟩ := h1
    intro q hq
    rcases List.mem_append.1 hq with hq | hq
    · exact .inl (h3 q.i (List.mem_map.2 ⟨q, hq, rfl⟩) p.i List.mem_cons_self)
    · exact .inr (h2 q.i (List.mem_map.2 ⟨q, hq, rfl⟩))
  have hprest : ∀ j ∈ rest, pairOk ops M p.i j = true := fun j hj => (List.pairwise_append.1 h.pair).2.2 p.i (List.mem_map.2 ⟨p, hpm, rfl⟩) j hj
  have hsz : ∀ d, p.o.dst = some d → d < a.tmps.size := by
    intro d hd
    have := hD.ok p.i p.o (h.op p hpm).1
    simp only [opOk, hd, Bool.and_eq_true] at this
    rw [h.size]
    exact Nat.le_of_ble_eq_true this.2
  -- what p writes, the others that look there have p ahead
  have key : ∀ q ∈ U1 ++ U2, ∀ t ∈ q.o.looksAt ops, p.o.dst = some t → bit M q.i p.i = true := by
    intro q hq t ht hd
    have hqU := inU q hq
    have hno : bit M p.i q.i ≠ true := fun hb => hah q.i hb (List.mem_append_left _ (List.mem_map.2 ⟨q, hqU, rfl⟩))
    rcases hpair q hq with hp | hp
    · obtain ⟨h1, h2, h3, h4⟩ := pairOk_spec hp (h.op q hqU).1 (h.op p hpm).1
      rcases h4 with h4 | ⟨_, _, h5⟩
      · exact absurd h4 hno
      · exact absurd ht (h5 t hd)
    · obtain ⟨h1, h2, h3, h4⟩ := pairOk_spec hp (h.op p hpm).1 (h.op q hqU).1
      rcases h4 with h4 | ⟨_, h5, _⟩
      · exact h4
      · exact absurd ht (h5 t hd)
  refine ⟨fun q hq => h.sub q (inU q hq), fun q hq => h.op q (inU q hq), fun q hq => h.pv q (inU q hq), fun q hq hh ob hqa => ⟨(h.al q (inU q hq) hh ob hqa).1, (h.al q (inU q hq) hh ob hqa).2.1, hno q hq hh ob hqa, (h.al q (inU q hq) hh ob hqa).2.2.2⟩, fun q hq q' hq' => h.apart q (inU q hq) q' (inU q' hq'), h.n0le, ?_, fun q hq t ht q' hq' => h.ops1 q (inU q hq) t ht q' (inU q' hq'), ?_, fun q hq => h.out q (inU q hq), ?_, ?_, ?_, by simpa using h.lsize, h.mark hD hi, by rw [size_put]; exact h.size, by rw [defers_put]; exact h.defers, h.glob.mono hle, hR⟩
  · intro t ht
    rw [getD_put a _ _ _ hsz]
    by_cases e : p.o.dst = some t
    · rw [if_pos e, h.out p hpm t e]; exact hv
    · rw [if_neg e]
      refine (h.tmp t fun q hq => ?_).mono hle
      rcases ofU q hq with rfl | hq
      · exact e
      · exact ht q hq
  · intro q hq t ht hall
    rw [getD_put a _ _ _ hsz]
    by_cases e : p.o.dst = some t
    · rw [if_pos e, h.ops1 q (inU q hq) t ht p hpm e (key q hq t ht e)]; exact hv
    · rw [if_neg e]
      refine (h.ops2 q (inU q hq) t ht fun q' hq' hd => ?_).mono hle
      rcases ofU q' hq' with rfl | hq'
      · exact absurd hd e
      · exact hall q' hq' hd
  · refine h.pair.sublist ?_
    rw [List.map_append, List.map_append, List.map_cons]
    exact List.Sublist.append (List.Sublist.append (List.Sublist.refl _) (List.sublist_cons_self _ _)) (List.Sublist.refl _)
  · intro j hj
    refine h.bnd j ?_
    rcases List.mem_append.1 hj with hj | hj
    · obtain ⟨q, hq, rfl⟩ := List.mem_map.1 hj
      exact List.mem_append_left _ (List.mem_map.2 ⟨q, inU q hq, rfl⟩)
    · exact List.mem_append_right _ hj
  · intro j hj
    rw [listed_set (by rw [h.lsize]; exact hj), h.lst j hj]
    constructor
    · rintro ⟨hm, hne⟩
      rcases List.mem_append.1 hm with hm | hm
      · obtain ⟨q, hq, rfl⟩ := List.mem_map.1 hm
        rcases ofU q hq with rfl | hq
        · exact absurd rfl hne
        · exact List.mem_append_left _ (List.mem_map.2 ⟨q, hq, rfl⟩)
      · exact List.mem_append_right _ hm
    · intro hm
      rcases List.mem_append.1 hm with hm | hm
      · obtain ⟨q, hq, rfl⟩ := List.mem_map.1 hm
        refine ⟨List.mem_append_left _ (List.mem_map.2 ⟨q, inU q hq, rfl⟩), fun he => ?_⟩
        rcases hpair q hq with hp | hp
        · exact (pairOk_spec hp (h.op q (inU q hq)).1 (h.op p hpm).1).1 he
        · exact (pairOk_spec hp (h.op p hpm).1 (h.op q (inU q hq)).1).1 he.symm
      · refine ⟨List.mem_append_right _ hm, fun he => ?_⟩
        subst he
        obtain ⟨o', ho'⟩ : ∃ o', ops.toList[p.i]? = some o' := ⟨p.o, (h.op p hpm).1⟩
        exact (pairOk_spec (hprest p.i hm) (h.op p hpm).1 (h.op p hpm).1).1 rfl

/-- The next effect is done. -/
theorem Inv.eff {β β' : Emb} {H H1 : DH} {w w' : World} {T : Tr Value} {a : Act} {listed : Array Bool} {U : List Pn} {i : Nat} {rest : List Nat} {Pd Pd' : List Pn} (h : Inv C ops M n0 ng n D β H w T a listed U (i :: rest) Pd)
    {o : Oper} (ho : ops.toList[i]? = some o) (hi : i ∈ Region.ready .any ops listed) {v v' : Value} (hv : V β' v v') (hle : EmbLe β β') (hR : R β' H1 w') (hPd : ∀ p ∈ U, p ∈ Pd' ∧ Good C ops p H1) (hn : H.n ≤ H1.n) (hnone : ∀ q ∈ U, ∀ hh ob, q.al = some (hh, ob) → β' hh = none) :
    Inv C ops M n0 ng n D β' H1 w' (dput o.dst v T) (a.put o.dst v') (listed.setIfInBounds i true) U rest Pd' := by
  obtain ⟨hlt, -, hah⟩ := h.ahead hD hi
  have hp : ∀ q ∈ U, pairOk ops M q.i i = true := fun q hq => (List.pairwise_append.1 h.pair).2.2 q.i (List.mem_map.2 ⟨q, hq, rfl⟩) i List.mem_cons_self
  have hno : ∀ q ∈ U, bit M i q.i ≠ true := fun q hq hb => hah q.i hb (List.mem_append_left _ (List.mem_map.2 ⟨q, hq, rfl⟩))
  have hsz : ∀ d, o.dst = some d → d < a.tmps.size := by
    intro d hd
    have := hD.ok i o ho
    simp only [opOk, hd, Bool.and_eq_true] at this
    rw [h.size]
    exact Nat.le_of_ble_eq_true this.2
  have key : ∀ q ∈ U, ∀ t ∈ q.o.looksAt ops, o.dst ≠ some t := by
    intro q hq t ht hd
    obtain ⟨h1, h2, h3, h4⟩ := pairOk_spec (hp q hq) (h.op q hq).1 ho
    rcases h4 with h4 | ⟨_, _, h5⟩
    · exact hno q hq h4
    · exact h5 t hd ht
  refine ⟨fun p hpm => (hPd p hpm).1, h.op, fun p hpm => (hPd p hpm).2, fun q hq hh ob hqa => (by
    obtain ⟨a1, a2, a3, ⟨k, a4, a5, a6⟩, a7⟩ := h.al q hq hh ob hqa
    exact ⟨a1, a2, hnone q hq hh ob hqa, ⟨k, a4, a5, Nat.lt_of_lt_of_le a6 hn⟩, a7⟩), h.apart, Nat.le_trans h.n0le hn, ?_, h.ops1, ?_, ?_, ?_, ?_, ?_, by simpa using h.lsize, h.mark hD hi, by rw [size_put]; exact h.size, by rw [defers_put]; exact h.defers, h.glob.mono hle, hR⟩
  · intro t ht
    rw [getD_put a _ _ _ hsz, tget_dput]
    by_cases e : o.dst = some t
    · rw [if_pos e, if_pos e]; exact hv
    · rw [if_neg e, if_neg e]; exact (h.tmp t ht).mono hle
  · intro p hpm t ht hall
    rw [getD_put a _ _ _ hsz, if_neg (key p hpm t ht)]
    exact (h.ops2 p hpm t ht hall).mono hle
  · intro p hpm t ht
    rw [tget_dput, if_neg ((pairOk_spec (hp p hpm) (h.op p hpm).1 ho).2.2.1 t ht)]
    exact h.out p hpm t ht
  · refine h.pair.sublist (List.Sublist.append (List.Sublist.refl _) (List.sublist_cons_self _ _))
  · intro j hj
    refine h.bnd j ?_
    rcases List.mem_append.1 hj with hj | hj
    · exact List.mem_append_left _ hj
    · exact List.mem_append_right _ (List.mem_cons_of_mem _ hj)
  · intro j hj
    rw [listed_set (by rw [h.lsize]; exact hj), h.lst j hj]
    constructor
    · rintro ⟨hm, hne⟩
      rcases List.mem_append.1 hm with hm | hm
      · exact List.mem_append_left _ hm
      · rcases List.mem_cons.1 hm with rfl | hm
        · exact absurd rfl hne
        · exact List.mem_append_right _ hm
    · intro hm
      rcases List.mem_append.1 hm with hm | hm
      · refine ⟨List.mem_append_left _ hm, fun he => ?_⟩
        obtain ⟨q, hq, rfl⟩ := List.mem_map.1 hm
        exact (pairOk_spec (hp q hq) (h.op q hq).1 ho).1 he
      · refine ⟨List.mem_append_right _ (List.mem_cons_of_mem _ hm), fun he => ?_⟩
        subst he
        have h1 := (List.pairwise_append.1 h.pair).2.1
        rw [List.pairwise_cons] at h1
        exact (pairOk_spec (h1.1 _ hm) ho ho).1 rfl

omit hD in
theorem Ext.none_of {β β' : Emb} {H H' : DH} {w w' : World} (h : Ext β H w β' H' w') {hh k : Nat} (hk : hh = 2 * k) (hlt : k < H.n) (hb : β hh = none) : β' hh = none := by
  cases hb' : β' hh with
  | none => rfl
  | some bi =>
    rcases h.dom hh bi hb' with h1 | ⟨k', h1, h2⟩
    · rw [hb] at h1; cases h1
    · omega
omit hD in
theorem Inv.nones {β β' : Emb} {H H' : DH} {w w' : World} {T : Tr Value} {a : Act} {listed : Array Bool} {U : List Pn} {rest : List Nat} {Pd : List Pn} (h : Inv C ops M n0 ng n D β H w T a listed U rest Pd) (hx : Ext β H w β' H' w') :
    ∀ q ∈ U, ∀ hh ob, q.al = some (hh, ob) → β' hh = none := by
  intro q hq hh ob hqa
  obtain ⟨a1, a2, a3, ⟨k, a4, a5, a6⟩, a7⟩ := h.al q hq hh ob hqa
  exact hx.none_of a4 a6 a3
include hC
theorem evalL_wp {call : Calling} (hcall : CallOK P ng call) {β0 : Emb} {H0 : DH} (hn0 : n0 = H0.n) {w0 : World} {e : DExit} {T' : Tr Value} {H' : DH} : ∀ (fuel : Nat) (rest : List Nat) (U : List Pn) (T : Tr Value) (Pd : List Pn) (H : DH) (β : Emb) (w : World) (a : Act) (listed : Array Bool),
    Inv C ops M n0 ng n D β H w T a listed U rest Pd → fuel = U.length + rest.length → evalL C call ops M rest T H Pd = some (e, T', H') → Ext β0 H0 w0 β H w →
    wpAny P .any ops (Post ng n D β0 H0 w0 e T' H') fuel listed a w := by
  have hA : ∀ {ρ : Operand → Value} {o : Oper} {H : DH} {v : Value} {H1 : DH}, allocs o = true → dop C ρ o H = some (.val v, H1) → ∃ ob, H1 = H.alloc ob := by
    intro ρ o H v H1 ha hd
    exact alloc_shape ha hd
  intro fuel
  induction fuel with
  | zero =>
    intro rest U T Pd H β w a listed h hf he hx
    obtain ⟨rest', U', T1, H1, Pd', h1, h2, hx, h3, h4⟩ := adv hD rest h he hx hA
    have hU : U' = [] := List.eq_nil_of_length_eq_zero (by omega)
    have hr : rest' = [] := List.eq_nil_of_length_eq_zero (by omega)
    subst hU; subst hr
    simp only [evalL, Option.some.injEq, Prod.mk.injEq] at h2
    obtain ⟨rfl, rfl, rfl⟩ := h2
    refine ⟨?_, β, trivial, fun _ => ⟨fun t => h1.tmp t (fun p hp => by cases hp), h1.size, h1.defers, h1.glob⟩, h1.defers, h1.rel, hx⟩
    cases hr : Region.ready .any ops listed with
    | nil => rfl
    | cons i l =>
      have hi : i ∈ Region.ready .any ops listed := by rw [hr]; exact List.mem_cons_self
      have := (h1.ahead hD hi).2.1
      simp at this
  | succ fuel ih =>
    intro rest U T Pd H β w a listed h hf he hx
    obtain ⟨rest', U', T1, H, Pd', h1, h2, hx, h3, h4⟩ := adv hD rest h he hx hA
    clear h he
    have hlen : U'.length + rest'.length = fuel + 1 := by omega
    refine ⟨fun hnil => ?_, fun i hi => ?_⟩
    · -- something is always ready
      exfalso
      have all : ∀ i, i < ops.size → listed.getD i false = true := by
        intro i
        induction i using Nat.strongRecOn with
        | _ i ihi =>
          intro hi
          cases hl : listed.getD i false with
          | true => rfl
          | false =>
            exfalso
            have hmem : i ∈ Region.ready .any ops listed := by
              rw [mem_ready]
              refine ⟨?_, ops[i], by rw [Array.getElem?_eq_getElem hi], fun e he hb => ?_⟩
              · have h4 : i < listed.size := by rw [h1.lsize]; exact hi
                simp only [Array.getD_eq_getD_getElem?, Array.getElem?_eq_getElem h4, Option.getD_some] at hl ⊢
                exact hl
              · have h5 := (hD.mask i ops[i] (by rw [Array.getElem?_toList, Array.getElem?_eq_getElem hi])).1 e he hb
                exact ihi e.on h5 (Nat.lt_trans h5 hi)
            rw [hnil] at hmem; cases hmem
      have hne : U'.map (·.i) ++ rest' ≠ [] := fun e => by
        have := congrArg List.length e
        simp at this
        rw [this.1, this.2] at hlen
        simp at hlen
      obtain ⟨j, hj⟩ := List.exists_mem_of_ne_nil _ hne
      have h5 := (h1.lst j (h1.bnd j hj)).2 hj
      have h6 := all j (h1.bnd j hj)
      have h7 : j < listed.size := by rw [h1.lsize]; exact h1.bnd j hj
      simp only [Array.getD_eq_getD_getElem?, Array.getElem?_eq_getElem h7, Option.getD_some] at h5 h6
      rw [h5] at h6; cases h6
    · obtain ⟨hlt, hmem, hah⟩ := h1.ahead hD hi
      rcases List.mem_append.1 hmem with hm | hm
      · -- a floating one
        obtain ⟨p, hp, rfl⟩ := List.mem_map.1 hm
        obtain ⟨hpo, hpl⟩ := h1.op p hp
        have hT : ∀ t ∈ p.o.looksAt ops, V β (tget p.T t) (a.tmps.getD t Go.undef) := fun t ht =>
          h1.ops2 p hp t ht fun q hq hd => by
            cases hb : bit M p.i q.i with
            | false => rfl
            | true => exact absurd (List.mem_append_left _ (List.mem_map.2 ⟨q, hq, rfl⟩)) (hah q.i hb)
        have hpv := h1.pv p hp
        have hal := h1.al p hp
        have hnd : ∀ {U1 U2 : List Pn}, U' = U1 ++ p :: U2 → ∀ q ∈ U1 ++ U2, q.i ≠ p.i := by
          intro U1 U2 hU q hq he
          have h8 := (List.pairwise_append.1 h1.pair).1
          rw [hU, List.map_append, List.map_cons, List.pairwise_append, List.pairwise_cons] at h8
          obtain ⟨-, ⟨h9, -⟩, h10⟩ := h8
          rcases List.mem_append.1 hq with hq | hq
          · exact (pairOk_spec (h10 q.i (List.mem_map.2 ⟨q, hq, rfl⟩) p.i List.mem_cons_self) (h1.op q (by rw [hU]; simp [hq])).1 hpo).1 he
          · exact (pairOk_spec (h9 q.i (List.mem_map.2 ⟨q, hq, rfl⟩)) hpo (h1.op q (by rw [hU]; simp [hq])).1).1 he.symm
        have hap := h1.apart p hp
        obtain ⟨U1, U2, rfl⟩ := List.append_of_mem hp
        have inU : ∀ q, q ∈ U1 ++ U2 → q ∈ U1 ++ p :: U2 := fun q hq => by simp at hq ⊢; rcases hq with h | h <;> simp [h]
        unfold wpOp
        have hpo' : ops[p.i]? = some p.o := by rw [← Array.getElem?_toList]; exact hpo
        rw [hpo']
        simp only
        rw [wanted_rel' ops p.o hT]
        have hl2 : fuel = (U1 ++ U2).length + rest'.length := by simp at hlen ⊢; omega
        unfold Good at hpv
        cases hpa : p.al with
        | none =>
          rw [hpa] at hpv
          simp only at hpv
          unfold pval at hpv
          cases hw : dwanted ops p.T p.o with
          | false =>
            rw [hw] at hpv
            simp only [Option.some.injEq] at hpv
            simp only [Bool.false_eq_true, if_false]
            refine ih rest' (U1 ++ U2) T1 Pd' H β w _ _ (h1.done hD hi (by rw [← hpv]; exact V.undef β) (EmbLe.refl β) h1.rel (fun q hq hh ob hqa => (h1.al q (inU q hq) hh ob hqa).2.2.1)) hl2 h2 hx
          | true =>
            rw [hw] at hpv
            simp only [if_true] at hpv ⊢
            refine .inl ?_
            cases hd : dop C (deval p.T) p.o H with
            | none => rw [hd] at hpv; cases hpv
            | some r =>
              obtain ⟨dr, H2⟩ := r
              rw [hd] at hpv
              cases dr with
              | skip => cases hpv
              | enter _ _ => cases hpv
              | panic _ => cases hpv
              | val v =>
                simp only at hpv
                split at hpv
                · rename_i hn
                  cases hpv
                  have := dop_looks (hpl hpa) hd hn
                  subst this
                  obtain ⟨w', β', ⟨v', hr, hv⟩, r2, r3⟩ := dop_sound hC hd (opds_rel h1.glob (hD.ok p.i p.o hpo) hT) h1.rel
                  unfold Oper.wp
                  rw [hr]
                  exact ih rest' (U1 ++ U2) T1 Pd' H2 β' w' _ _ (h1.done hD hi hv r3.sub r2 (fun q hq => h1.nones r3 q (inU q hq))) hl2 h2 (hx.trans r3)
                · cases hpv
        | some pa =>
          obtain ⟨hh, ob⟩ := pa
          rw [hpa] at hpv
          simp only at hpv
          obtain ⟨a1, a2, a3, ⟨k, a4, a5, a6⟩, Hp, a7, a8⟩ := hal hh ob hpa
          rw [a2]
          simp only [if_true]
          refine .inl ?_
          obtain ⟨ob', x, size, v', e1, e2, e3⟩ := alloc_raw hC a1 a8 (opds_rel h1.glob (hD.ok p.i p.o hpo) hT) w
          have e4 : ob' = ob := by
            have := congrArg (fun X : DH => X.get (2 * Hp.n)) e1
            simpa using this.symm
          subst e4
          rw [← a7] at e3
          obtain ⟨f1, f2⟩ := e3 (embAdd β hh ⟨w.heap.size, 0, size⟩) (embAdd_le a3) (embAdd_same _ _ _)
          obtain ⟨g1, g2, g3⟩ := h1.rel.late a3 ⟨k, a4, a6⟩ hpv x size f2
          unfold Oper.wp
          rw [e2]
          refine ih rest' (U1 ++ U2) T1 Pd' H _ _ _ _ (h1.done hD hi f1 g2 g1 (fun q hq hh' ob2 hqa => ?_)) hl2 h2 (hx.late a4 (by omega) a3 x size)
          have := (h1.al q (inU q hq) hh' ob2 hqa).2.2.1
          rw [embAdd_ne]
          · exact this
          · exact fun e => hap q (inU q hq) (fun e2 => hnd rfl q hq e2.symm) hh ob' hh' ob2 hpa hqa e.symm
      · -- an effect
        cases rest' with
        | nil => cases hm
        | cons k r =>
          obtain ⟨o, ho, hlk, hlka⟩ := h4 k r rfl
          rcases List.mem_cons.1 hm with rfl | hm
          · have hT : ∀ t ∈ o.looksAt ops, V β (tget T1 t) (a.tmps.getD t Go.undef) := fun t ht =>
              h1.tmp t fun q hq hd => by
                have hpq : pairOk ops M q.i i = true := (List.pairwise_append.1 h1.pair).2.2 q.i (List.mem_map.2 ⟨q, hq, rfl⟩) i List.mem_cons_self
                rcases (pairOk_spec hpq (h1.op q hq).1 ho).2.2.2 with h5 | ⟨_, h5, _⟩
                · exact hah q.i h5 (List.mem_append_left _ (List.mem_map.2 ⟨q, hq, rfl⟩))
                · exact h5 t hd ht
            unfold evalL at h2
            rw [ho] at h2
            simp only [hlk, hlka] at h2
            unfold wpOp
            have ho' : ops[i]? = some o := by rw [← Array.getElem?_toList]; exact ho
            rw [ho']
            simp only
            rw [wanted_rel' ops o hT]
            have hl2 : fuel = U'.length + r.length := by simp at hlen; omega
            cases hw : dwanted ops T1 o with
            | false =>
              rw [hw] at h2
              simp only [Bool.false_eq_true, if_false] at h2 ⊢
              exact ih r U' _ Pd' H β w _ _ (h1.eff hD ho hi (V.undef β) (EmbLe.refl β) h1.rel (fun p hp => ⟨h1.sub p hp, h1.pv p hp⟩) (Nat.le_refl _) (h1.nones (Ext.refl β H w))) hl2 h2 hx
            | true =>
              rw [hw] at h2
              simp only [if_true] at h2 ⊢
              refine .inl ?_
              cases hs : stepOp C call o T1 H with
              | none => rw [hs] at h2; cases h2
              | some pr =>
                obtain ⟨out, H1⟩ := pr
                rw [hs] at h2
                refine stepOp_sound hC hcall h1.glob h1.rel (opds_rel h1.glob (hD.ok i o ho) hT) hs ?_ ?_
                · intro v v' w' β' hout hv r2 r3
                  subst hout
                  simp only at h2
                  cases hk : keep C ops M i H1 Pd' with
                  | none => rw [hk] at h2; cases h2
                  | some Pd2 =>
                    rw [hk] at h2
                    refine ih r U' _ Pd2 H1 β' w' _ _ (h1.eff hD ho hi hv r3.sub r2 (fun p hp => ?_) r3.n (h1.nones r3)) hl2 h2 (hx.trans r3)
                    refine keep_spec hk p (h1.sub p hp) ?_
                    cases hb : bit M i p.i with
                    | false => rfl
                    | true => exact absurd (List.mem_append_left _ (List.mem_map.2 ⟨p, hp, rfl⟩)) (hah p.i hb)
                · intro v v' w' β' hout hv r2 r3
                  subst hout
                  simp only [Option.some.injEq, Prod.mk.injEq] at h2
                  obtain ⟨rfl, rfl, rfl⟩ := h2
                  exact ⟨β', ⟨v', rfl, hv⟩, fun h => (by cases h), h1.defers, r2, hx.trans r3⟩
          · exfalso
            have hpq := (List.pairwise_append.1 h1.pair).2.1
            rw [List.pairwise_cons] at hpq
            have hik := hpq.1 i hm
            obtain ⟨oi, hoi⟩ : ∃ oi, ops.toList[i]? = some oi := ⟨ops[i], by rw [Array.getElem?_toList, Array.getElem?_eq_getElem hlt]⟩
            rcases (pairOk_spec hik ho hoi).2.2.2 with h5 | ⟨h5, _⟩
            · exact hah k h5 (List.mem_append_right _ List.mem_cons_self)
            · unfold floats at h5; rw [hlk, hlka] at h5; cases h5

/-- A region whose order is drawn. -/
theorem evalL_sound (hm : P.follows .mixedOrders = true) {call : Calling} (hcall : CallOK P ng call) {id : Nat} {β : Emb} {H : DH} {w : World} {T : Tr Value} {a : Act} {e : DExit} {T' : Tr Value} {H' : DH} (hT : TR ng β n D T a) (hR : R β H w)
    (h : evalL C call ops M L T H [] = some (e, T', H')) : (Code.region id ops true).wp P (Post ng n D β H w e T' H') a w := by
  refine wp_region_any hm ?_
  refine evalL_wp (n0 := H.n) hC hD hcall rfl ops.size L [] T [] H β _ a _ ?_ (by simp [hD.len]) h (Ext.draw β H w _)
  refine ⟨fun p hp => (by cases hp), fun p hp => (by cases hp), fun p hp => (by cases hp), fun p hp => (by cases hp), fun p hp => (by cases hp), Nat.le_refl _, fun t _ => hT.val t, fun p hp => (by cases hp), fun p hp => (by cases hp), fun p hp => (by cases hp), by simpa using hD.pair, fun i hi => hD.bnd i (by simpa using hi), fun i hi => ?_, by simp, fun i hi => ?_, hT.size, hT.defers, hT.glob, hR.draw _⟩
  · simp [hi, hD.all i hi]
  · exfalso
    by_cases hlt : i < ops.size
    · simp [hlt] at hi
    · simp [hlt] at hi
end
end
end Go.Ds
