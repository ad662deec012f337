/- A deterministic layer over the model, part U: parts of heaps; calls that leave nothing behind. -/
import Derived.Test.YtnlnbhcjgacgmaaGreatDoorDsT
set_option linter.unusedVariables false
set_option linter.unusedSimpArgs false
namespace Go.Ds
noncomputable section
/-- What a small map knows of all the value's handles, it knows of the value. -/
theorem V.back {β β' : Emb} (hle : EmbLe β β') {v y : Value} (h : V β v y) : ∀ {y' : Value}, V β' v y' → V β v y' := by
  induction h with
  | bool b => intro y' h'; cases h'; exact .bool b
  | int k n => intro y' h'; cases h'; exact .int k n
  | string s => intro y' h'; cases h'; exact .string s
  | ptrNil => intro y' h'; cases h'; exact .ptrNil
  | ptr hb =>
    intro y' h'
    cases h' with
    | ptr hb' => have e := hle _ _ hb; rw [hb'] at e; cases e; exact .ptr hb
  | slNil =>
    intro y' h'
    cases h' with
    | slNil => exact .slNil
  | sl hb hn hc ha =>
    intro y' h'
    cases h' with
    | sl hb' hn' hc' ha' => have e := hle _ _ hb; rw [hb'] at e; cases e; exact .sl hb hn' hc' ha'
  | mapNil => intro y' h'; cases h'; exact .mapNil
  | map hb =>
    intro y' h'
    cases h' with
    | map hb' => have e := hle _ _ hb; rw [hb'] at e; cases e; exact .map hb
  | nilFunc => intro y' h'; cases h'; exact .nilFunc
  | func fn hf hfi hc hci ih1 ih2 =>
    intro y' h'
    cases h' with
    | func _ hf' hfi' hc' hci' =>
      refine .func fn hf' (fun i h1 h2 => ?_) hc' (fun i h1 h2 => ?_)
      · exact ih1 i h1 (hf ▸ h1) (hfi' i h1 h2)
      · exact ih2 i h1 (hc ▸ h1) (hci' i h1 h2)
  | nilIface => intro y' h'; cases h'; exact .nilIface
  | iface t h ih =>
    intro y' h'
    cases h' with
    | iface _ h2 => exact .iface t (ih h2)
  | agg hs hi ih =>
    intro y' h'
    cases h' with
    | agg hs' hi' => exact .agg hs' (fun i h1 h2 => ih i h1 (hs ▸ h1) (hi' i h1 h2))
  | tuple hs hi ih =>
    intro y' h'
    cases h' with
    | tuple hs' hi' => exact .tuple hs' (fun i h1 h2 => ih i h1 (hs ▸ h1) (hi' i h1 h2))
theorem VL.back {β β' : Emb} (hle : EmbLe β β') {xs ys zs : List Value} (h : VL β xs ys) (k : VL β' xs zs) : VL β xs zs := by
  refine ⟨k.1, fun i x z hx hz => ?_⟩
  obtain ⟨y, hy, hv⟩ := h.get hx
  exact hv.back hle (k.2 i x z hx hz)
theorem ObjRel.back {β β' : Emb} (hle : EmbLe β β') {bi : BI} {o : DO} {x y : Obj} (h : ObjRel β bi o x) (k : ObjRel β' bi o y) : ObjRel β bi o y := by
  cases o with
  | row cells e lo hi =>
    cases x <;> simp only [ObjRel] at h
    cases y <;> simp only [ObjRel] at k ⊢
    obtain ⟨h1, h2, h3, h4, h5⟩ := h
    obtain ⟨k1, k2, k3, k4, k5⟩ := k
    exact ⟨k1, k2, k3, h4.back hle k4, k5⟩
  | map es =>
    cases x <;> simp only [ObjRel] at h
    cases y <;> simp only [ObjRel] at k ⊢
    exact ⟨h.1.back hle k.1, h.2.back hle k.2⟩
  | iter s pos =>
    cases x <;> simp only [ObjRel] at h
    cases y <;> simp only [ObjRel] at k ⊢
    exact k
/-- A part of a heap. -/
structure Part (Hs H : DH) : Prop where
  sub : ∀ h o, Hs.get h = some o → H.get h = some o
  n : H.n ≤ Hs.n
theorem R.part {β : Emb} {Hs H : DH} {w : World} (hs : Part Hs H) (hR : R β H w) : R β Hs w where
  obj := fun h o bi hg hb => hR.obj h o bi (hs.sub h o hg) hb
  inj := fun h h' bi bi' hg hg' hb hb' e => by
    obtain ⟨o, ho⟩ := Option.ne_none_iff_exists'.1 hg
    obtain ⟨o', ho'⟩ := Option.ne_none_iff_exists'.1 hg'
    exact hR.inj h h' bi bi' (by rw [hs.sub h o ho]; simp) (by rw [hs.sub h' o' ho']; simp) hb hb' e
  fresh := fun k hk => hR.fresh k (Nat.le_trans hs.n hk)
  lt := hR.lt
/-- The part's owner, behind a call that leaves the part as it was. -/
theorem R.owner {β β' : Emb} {Hs Hs' H : DH} {w w' : World} (hs : Part Hs H) (hR : R β H w) (hR' : R β' Hs' w') (hx : Ext β Hs w β' Hs' w') (hk : ∀ h o, Hs.get h = some o → Hs'.get h = some o) :
    R β H w' ∧ Ext β H w β H w' := by
  have hother : ∀ r, r < w.heap.size → (∀ h bi, H.get h ≠ none → β h = some bi → bi.rb ≠ r) → w'.heap[r]? = w.heap[r]? := by
    intro r hr hn
    refine hx.keep r hr fun h bi hh hb => ?_
    obtain ⟨o, ho⟩ := Option.ne_none_iff_exists'.1 hh
    exact hn h bi (by rw [hs.sub h o ho]; simp) hb
  refine ⟨⟨fun h o bi hg hb => ?_, hR.inj, hR.fresh, fun h bi hb => Nat.lt_of_lt_of_le (hR.lt h bi hb) hx.size⟩, ⟨EmbLe.refl _, hx.size, hother, fun h bi hh hb => .inl ⟨h, bi, hh, hb, rfl⟩, hx.os, hx.tape, hx.output, Nat.le_refl _, fun h bi hb => .inl hb⟩⟩
  obtain ⟨x, hx1, hx2⟩ := hR.obj h o bi hg hb
  cases hh : Hs.get h with
  | none =>
    refine ⟨x, ?_, hx2⟩
    rw [hx.keep bi.rb (hR.lt h bi hb) ?_, hx1]
    intro h0 bi0 hh0 hb0 e
    obtain ⟨o0, ho0⟩ := Option.ne_none_iff_exists'.1 hh0
    have := hR.inj h0 h bi0 bi (by rw [hs.sub h0 o0 ho0]; simp) (by rw [hg]; simp) hb0 hb e
    subst this
    exact hh0 hh
  | some o' =>
    have := hs.sub h o' hh
    rw [hg] at this
    cases this
    obtain ⟨y, hy1, hy2⟩ := hR'.obj h o bi (hk h o hh) (hx.sub _ _ hb)
    exact ⟨y, hy1, hx2.back hx.sub hy2⟩
/-- A call that leaves nothing behind. -/
theorem calls_pure {P : Program} {ng : Nat} {call : Calling} (hcall : CallOK P ng call) {f : FuncId} {args : List Value} {Hs Hs' H : DH} {v : Value} (h : call f args Hs = some (.ret v, Hs')) (hs : Part Hs H)
    (hk : ∀ h o, Hs.get h = some o → Hs'.get h = some o) (hp : plain v = true) {β : Emb} {w : World} {args' : List Value} (hargs : VL β args args') (hR : R β H w) (hG : GOK ng β) :
    Calls P f ⟨args'⟩ w fun e w' => e = .returned v ∧ R β H w' ∧ Ext β H w β H w' := by
  refine (hcall f args Hs _ Hs' h β w args' hargs (hR.part hs) hG).mono fun e w' he => ?_
  obtain ⟨β', ho, hR', hx⟩ := he
  have := hR.owner hs hR' hx hk
  cases e with
  | returned v' => rw [plain_eq hp ho]; exact ⟨rfl, this⟩
  | panicked _ => exact ho.elim
  | outgrown => exact ho.elim
end
end Go.Ds
