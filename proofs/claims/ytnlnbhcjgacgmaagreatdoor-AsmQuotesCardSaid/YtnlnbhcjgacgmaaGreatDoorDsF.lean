/- A deterministic layer over the model, part F: slices, aggregates, assertions, maps that are read. -/
import Derived.Test.YtnlnbhcjgacgmaaGreatDoorDsE
set_option linter.unusedVariables false
set_option linter.unusedSimpArgs false
namespace Go.Ds
noncomputable section

/-- Optional operands. -/
def OV (β : Emb) : Option Value → Option Value → Prop
  | none, none => True
  | some x, some y => V β x y
  | _, _ => False

theorem dbound_sound {β : Emb} {x x' : Value} {y n : Nat} (h : dbound x y = some n) (hx : V β x x') {y' : Nat} (hy : y ≤ y') (code : BoundsCode) (P : Program) (w : World) :
    (Instr.sliceBound x' y' code).run P w = .ok n w ∧ n ≤ y := by
  unfold dbound at h
  split at h
  · rename_i k i
    cases hx
    split at h
    · rename_i hi
      cases h
      have : 0 ≤ i ∧ i ≤ (y' : Int) := by omega
      exact ⟨by simp [Instr.sliceBound, asIntOf, this], by omega⟩
    · cases h
  · cases h
theorem dbounds_sound {β : Emb} {len cap l h m : Nat} {lo hi mx lo' hi' mx' : Option Value} (hd : dbounds len cap lo hi mx = some (l, h, m)) (h1 : OV β lo lo') (h2 : OV β hi hi') (h3 : OV β mx mx')
    (hl : len ≤ cap) {cap' : Nat} (hc : cap ≤ cap') (b : Bool) (P : Program) (w : World) :
    ∃ m', (Instr.sliceBounds b len cap' lo' hi' mx').run P w = .ok (l, h, m') w ∧ m ≤ m' ∧ m' ≤ cap' ∧ l ≤ h ∧ h ≤ m ∧ m ≤ cap ∧ (cap = cap' → m' = m) := by
  unfold dbounds at hd
  unfold Instr.sliceBounds
  cases mx with
  | none =>
    cases mx' with
    | some _ => exact h3.elim
    | none =>
      simp only [Option.isSome_none, Bool.false_eq_true, if_false] at hd
      cases hi with
      | none =>
        cases hi' with
        | some _ => exact h2.elim
        | none =>
          simp only at hd
          cases lo with
          | none =>
            cases lo' with
            | some _ => exact h1.elim
            | none =>
              simp only [Option.some.injEq, Prod.mk.injEq] at hd
              obtain ⟨rfl, rfl, rfl⟩ := hd
              exact ⟨cap', by simp, hc, Nat.le_refl _, Nat.zero_le _, hl, Nat.le_refl _, fun e => e.symm⟩
          | some v =>
            cases lo' with
            | none => exact h1.elim
            | some v' =>
              simp only at hd
              cases hb : dbound v len with
              | none => simp [hb] at hd
              | some n =>
                simp only [hb, Option.some.injEq, Prod.mk.injEq] at hd
                obtain ⟨rfl, rfl, rfl⟩ := hd
                obtain ⟨hr, hn⟩ := dbound_sound hb h1 (Nat.le_refl _) .sliceB P w
                exact ⟨cap', by simp [hr], hc, Nat.le_refl _, hn, hl, Nat.le_refl _, fun e => e.symm⟩
      | some u =>
        cases hi' with
        | none => exact h2.elim
        | some u' =>
          simp only at hd
          cases hbu : dbound u cap with
          | none => simp [hbu] at hd
          | some hh =>
            simp only [hbu] at hd
            obtain ⟨hru, hnu⟩ := dbound_sound hbu h2 hc (if b then .sliceAcap else .sliceAlen) P w
            cases lo with
            | none =>
              cases lo' with
              | some _ => exact h1.elim
              | none =>
                simp only [Option.some.injEq, Prod.mk.injEq] at hd
                obtain ⟨rfl, rfl, rfl⟩ := hd
                exact ⟨cap', by simp [hru], hc, Nat.le_refl _, Nat.zero_le _, hnu, Nat.le_refl _, fun e => e.symm⟩
            | some v =>
              cases lo' with
              | none => exact h1.elim
              | some v' =>
                simp only at hd
                cases hb : dbound v hh with
                | none => simp [hb] at hd
                | some n =>
                  simp only [hb, Option.some.injEq, Prod.mk.injEq] at hd
                  obtain ⟨rfl, rfl, rfl⟩ := hd
                  obtain ⟨hr, hn⟩ := dbound_sound hb h1 (Nat.le_refl _) .sliceB P w
                  exact ⟨cap', by simp [hru, hr], hc, Nat.le_refl _, hn, hnu, Nat.le_refl _, fun e => e.symm⟩
  | some z =>
    cases mx' with
    | none => exact h3.elim
    | some z' =>
      simp only [Option.isSome_some, if_true] at hd
      cases hbz : dbound z cap with
      | none => simp [hbz] at hd
      | some mm =>
        simp only [hbz] at hd
        obtain ⟨hrz, hnz⟩ := dbound_sound hbz h3 hc (if b then .slice3Acap else .slice3Alen) P w
        cases hi with
        | none => simp at hd
        | some u =>
          cases hi' with
          | none => exact h2.elim
          | some u' =>
            simp only at hd
            cases hbu : dbound u mm with
            | none => simp [hbu] at hd
            | some hh =>
              simp only [hbu] at hd
              obtain ⟨hru, hnu⟩ := dbound_sound hbu h2 (Nat.le_refl _) .slice3B P w
              cases lo with
              | none =>
                cases lo' with
                | some _ => exact h1.elim
                | none =>
                  simp only [Option.some.injEq, Prod.mk.injEq] at hd
                  obtain ⟨rfl, rfl, rfl⟩ := hd
                  exact ⟨mm, by simp [hrz, hru], Nat.le_refl _, by omega, Nat.zero_le _, hnu, hnz, fun _ => rfl⟩
              | some v =>
                cases lo' with
                | none => exact h1.elim
                | some v' =>
                  simp only at hd
                  cases hb : dbound v hh with
                  | none => simp [hb] at hd
                  | some n =>
                    simp only [hb, Option.some.injEq, Prod.mk.injEq] at hd
                    obtain ⟨rfl, rfl, rfl⟩ := hd
                    obtain ⟨hr, hn⟩ := dbound_sound hb h1 (Nat.le_refl _) .slice3C P w
                    exact ⟨mm, by simp [hrz, hru, hr], Nat.le_refl _, by omega, hn, hnu, hnz, fun _ => rfl⟩

theorem zip_splice (off : Nat) : ∀ (l : List Value) (k : Nat) (cs : Array Value), (l.zipIdx k).foldl (fun cs p => cs.setIfInBounds (off + p.2) p.1) cs = spliceA cs (off + k) l
  | [], k, cs => rfl
  | v :: l, k, cs => by
    simp only [List.zipIdx_cons, List.foldl_cons, spliceA]
    exact zip_splice off l (k + 1) _
theorem VL.splice {β : Emb} {a : List Value} {b : Array Value} {vs vs' : List Value} (h : VL β a b.toList) (hv : VL β vs vs') (k : Nat) (hk : k + vs.length ≤ a.length) : VL β (splice a k vs) (spliceA b k vs').toList := by
  have hlen : a.length = b.size := by simpa using h.1
  refine ⟨by rw [length_splice a k vs hk]; simp [spliceA_size, hlen], fun i x y hx hy => ?_⟩
  rw [getElem?_splice a k vs hk] at hx
  rw [Array.getElem?_toList, getElem?_spliceA] at hy
  by_cases hi : k ≤ i ∧ i < k + vs.length
  · rw [if_pos hi] at hx
    rw [if_pos (by have := hv.1; omega)] at hy
    exact hv.2 _ x y hx hy
  · rw [if_neg hi] at hx
    rw [if_neg (by have := hv.1; omega)] at hy
    exact h.2 i x y hx (by simpa using hy)

theorem dfill_sound {β : Emb} {place place' : Nat → Option (Nat × Nat)} (hp : ∀ j p, place j = some p → place' j = some p) : ∀ (parts : List (Nat × Value)) (parts' : List (Nat × Value)) (cells : List Value) (cells' : Array Value) (r : List Value),
    dfill place cells parts = some r → VL β cells cells'.toList → parts.map (·.1) = parts'.map (·.1) → VL β (parts.map (·.2)) (parts'.map (·.2)) → ∃ r', Instr.fill place' cells' parts' = some r' ∧ VL β r r'.toList := by
  intro parts
  induction parts with
  | nil =>
    intro parts' cells cells' r h hv hm hvl
    cases parts' with
    | cons _ _ => simp at hm
    | nil => simp only [dfill, Option.some.injEq] at h; subst h; exact ⟨cells', rfl, hv⟩
  | cons p parts ih =>
    intro parts' cells cells' r h hv hm hvl
    obtain ⟨j, v⟩ := p
    cases parts' with
    | nil => simp at hm
    | cons p' parts' =>
      obtain ⟨j', v'⟩ := p'
      simp only [List.map_cons, List.cons.injEq] at hm
      obtain ⟨rfl, hm⟩ := hm
      obtain ⟨y, ys, e, hvv, hvl'⟩ := hvl.cons_inv
      simp only [List.map_cons, List.cons.injEq] at e
      obtain ⟨rfl, rfl⟩ := e
      simp only [dfill] at h
      split at h
      · cases h
      · rename_i off size hpl
        split at h
        · rename_i hc
          have hcs : VA β v.cells v'.cells := hvv.cells
          have hsz : v'.cells.size = v.cells.size := hcs.all.1.symm
          have hlen : cells.length = cells'.size := by simpa using hv.1
          have := ih parts' _ (spliceA cells' off v'.cells.toList) r h (hv.splice hcs off (by simp; omega)) hm hvl'
          obtain ⟨r', hr, hvr⟩ := this
          refine ⟨r', ?_, hvr⟩
          simp only [Instr.fill, hp _ _ hpl]
          rw [if_neg (by simp; omega)]
          have e : (v'.cells.zipIdx.foldl (fun cs (p : Value × Nat) => cs.setIfInBounds (off + p.2) p.1) cells') = spliceA cells' off v'.cells.toList := by
            rw [← Array.foldl_toList, Array.toList_zipIdx]
            exact zip_splice off v'.cells.toList 0 cells'
          rw [e]
          exact hr
        · cases h

theorem run_mapM {α γ : Type} (P : Program) (w : World) (f : α → Sem γ) (g : α → γ) : ∀ (l : List α), (∀ x ∈ l, (f x).run P w = .ok (g x) w) → (l.mapM f).run P w = .ok (l.map g) w := by
  intro l
  induction l with
  | nil => intro _; simp
  | cons x l ih =>
    intro h
    simp [List.mapM_cons, h x (List.mem_cons_self ..), ih fun y hy => h y (List.mem_cons_of_mem _ hy)]
theorem run_mapMA {α γ : Type} (P : Program) (w : World) (f : α → Sem γ) (g : α → γ) (a : Array α) (h : ∀ x ∈ a.toList, (f x).run P w = .ok (g x) w) : (a.mapM f).run P w = .ok (a.map g) w := by
  have := run_mapM P w f g a.toList h
  rw [← Array.toList_mapM] at this
  simp only [Sem.run_map] at this
  cases hr : (a.mapM f).run P w with
  | ok b w' =>
    rw [hr] at this
    simp only [Result.andThen_ok, Result.ok.injEq] at this
    obtain ⟨h1, rfl⟩ := this
    congr 1
    exact Array.ext' (by simpa using h1)
  | halt h w' => rw [hr] at this; simp at this

section
variable {P : Program} {C : Ctx} (hC : CtxOK P C) {β : Emb}
include hC

theorem dslice_sound {t : TypeId} {x x' r : Value} {lo hi mx lo' hi' mx' : Option Value} {H : DH} (h : dslice C t x lo hi mx H = some r) (hx : V β x x') (h1 : OV β lo lo') (h2 : OV β hi hi') (h3 : OV β mx mx') {w : World} (hR : R β H w) :
    ∃ r', (Instr.sliceAt t x' lo' hi' mx').run P w = .ok r' w ∧ V β r r' := by
  unfold dslice at h
  cases ht : C.ty.get t with
  | none => simp [ht] at h
  | some i =>
    simp only [ht] at h
    obtain ⟨d, hd, _, hr⟩ := run_kind hC ht
    split at h
    · rename_i s hk
      rw [hk] at hd; cases dk_string hd
      cases hx
      cases mx with
      | some _ => simp at h
      | none =>
        cases mx' with
        | some _ => exact h3.elim
        | none =>
          simp only [Option.isSome_none, Bool.false_eq_true, if_false] at h
          split at h
          · rename_i l hh m hb
            cases h
            obtain ⟨m', hrun, hm⟩ := dbounds_sound hb h1 h2 h3 (Nat.le_refl _) (Nat.le_refl _) false P w
            refine ⟨.string (s.extract l hh), by simp [Instr.sliceAt, Instr.slice, hr, hrun], ?_⟩
            have : (.string (s.extract l hh) : Value) = mkS ((s.data.toList.take hh).drop l) := by
              unfold mkS; congr 1; apply ByteArray.ext; apply Array.ext'
              rw [ByteArray.data_extract, Array.toList_extract, List.extract_eq_drop_take', List.drop_take]
            rw [← this]
            exact .string _
          · cases h
    · rename_i e hk
      rw [hk] at hd; cases dk_slice hd
      cases hx
      split at h
      · rename_i ie q hte hb
        cases h
        obtain ⟨l, hh, m⟩ := q
        obtain ⟨m', hrun, hm1, hm2, hm3, hm4, hm5, _⟩ := dbounds_sound hb h1 h2 h3 (Nat.le_refl _) (Nat.le_refl _) true P w
        have e1 : l = 0 := by omega
        have e2 : hh = 0 := by omega
        have e3 : m' = 0 := by omega
        subst e1; subst e2; subst e3
        exact ⟨_, by simp [Instr.sliceAt, Instr.slice, hr, hrun, run_size (hC.ty _ _ hte)], .slNil⟩
      · cases h
    · rename_i e hh o s len cap hk
      rw [hk] at hd; cases dk_slice hd
      split at h
      · rename_i ie hte
        split at h
        · rename_i hs
          subst hs
          split at h
          · rename_i l hi2 m hb
            cases h
            cases hx with
            | sl hbb hn hc ha =>
              rename_i c' ad bi
              obtain ⟨m', hrun, hm1, hm2, hm3, hm4, hm5, _⟩ := dbounds_sound hb h1 h2 h3 hn hc true P w
              refine ⟨_, by simp [Instr.sliceAt, Instr.slice, hr, hrun, run_size (hC.ty _ _ hte)]; rfl, ?_⟩
              by_cases e0 : m' = l
              · rw [if_pos e0]
                exact .sl hbb (by omega) (by omega) (.inl (by omega))
              · rw [if_neg e0]
                refine .sl hbb (by omega) (by omega) (.inr ?_)
                rcases ha with ha | ⟨rfl, ha⟩
                · omega
                · refine ⟨by rw [addr_add, Nat.add_assoc], ?_⟩
                  have : (m' - l) * ie.size + l * ie.size = m' * ie.size := by rw [← Nat.add_mul]; congr 1; omega
                  have h4 : m' * ie.size ≤ c' * ie.size := Nat.mul_le_mul_right _ hm2
                  omega
          · cases h
        · cases h
      · cases h
    · rename_i n e hh o hk
      rw [hk] at hd; cases dk_array hd
      split at h
      · rename_i ie cells e2 lo2 hi2 hte hg
        split at h
        · rename_i hle
          split at h
          · rename_i l hi3 m hb
            cases h
            cases hx with
            | ptr hbb =>
              rename_i bi
              obtain ⟨cs, fr, hx, hsz, hle2, hvl, _⟩ := hR.row hg hbb
              obtain ⟨m', hrun, hm1, hm2, hm3, hm4, hm5, he⟩ := dbounds_sound hb h1 h2 h3 (Nat.le_refl _) (Nat.le_refl _) false P w
              have he := he rfl
              subst he
              refine ⟨_, by simp [Instr.sliceAt, Instr.sureAddr, hr, hrun, run_size (hC.ty _ _ hte)]; rfl, ?_⟩
              by_cases e0 : m' = l
              · rw [if_pos e0]
                exact .sl hbb (by omega) (Nat.le_refl _) (.inl (by omega))
              · rw [if_neg e0]
                refine .sl hbb (by omega) (Nat.le_refl _) (.inr ⟨by rw [addr_add, Nat.add_assoc], ?_⟩)
                have : (m' - l) * ie.size + l * ie.size = m' * ie.size := by rw [← Nat.add_mul]; congr 1; omega
                have h4 : m' * ie.size ≤ n * ie.size := Nat.mul_le_mul_right _ hm2
                omega
          · cases h
        · cases h
      · cases h
    · cases h

theorem dbuild_sound {t : TypeId} {parts parts' : List (Nat × Value)} {r : Value} (h : dbuild C t parts = some r) (hm : parts.map (·.1) = parts'.map (·.1)) (hvl : VL β (parts.map (·.2)) (parts'.map (·.2))) (w : World) :
    ∃ r', (Instr.build t ⟨parts'⟩).run P w = .ok r' w ∧ V β r r' := by
  unfold dbuild at h
  cases ht : C.ty.get t with
  | none => simp [ht] at h
  | some i =>
    have hi := hC.ty t i ht
    obtain ⟨d, hd, hund, hr⟩ := run_kind hC ht
    simp only [ht] at h
    cases hz : i.zero with
    | none => simp [hz] at h
    | some z =>
      simp only [hz] at h
      have hzero := run_zero hi hz w
      have hvz : VL β z.cells.toList z.cells.toList := (plain_V β (hi.zero z hz).1).cells
      split at h
      · rename_i fs hk
        rw [hk] at hd
        obtain ⟨fields, rfl, hfs⟩ := dk_struct hd
        subst hfs
        obtain ⟨cs, hf, rfl⟩ := Option.map_eq_some_iff.1 h
        · skip
          have hmm := run_mapMA P w (fun f : Field => do pure (f.offset, ← sizeOf f.type)) (fun f => (f.offset, P.cellsOf f.type)) fields (fun f hfm => by
            obtain ⟨fi, hfi⟩ := hi.flds fields hund f hfm
            simp [sizeOf, typeInfo, hfi, Program.cellsOf])
          obtain ⟨r', hr', hvr⟩ := dfill_sound (β := β) (place' := fun j => (fields.map fun f => (f.offset, P.cellsOf f.type))[j]?) (fun j p hp => by
            simp only [List.getElem?_map] at hp
            cases hfl : fields.toList[j]? with
            | none => simp [hfl] at hp
            | some fl =>
              simp only [hfl, Option.map_some] at hp
              cases hte : C.ty.get fl.type with
              | none => simp [hte] at hp
              | some k =>
                simp only [hte, Option.map_some, Option.some.injEq] at hp
                subst hp
                have h2 : fields[j]? = some fl := by rw [← Array.getElem?_toList]; exact hfl
                obtain ⟨info, e1, e2, _, _⟩ := (hC.ty _ _ hte).info
                simp [h2, Program.cellsOf, e1, e2]) parts parts' _ z.cells cs hf hvz hm hvl
          refine ⟨.agg r', ?_, V.agg' hvr⟩
          simp only [Instr.build, Sem.run_bind, hzero, Result.andThen_ok, hr, hmm]
          simp only [hr']
          rfl
      · rename_i n e hk
        rw [hk] at hd; cases dk_array hd
        split at h
        · rename_i ie hte
          cases hf : dfill (fun j => some (j * ie.size, ie.size)) z.cells.toList parts with
          | none => rw [hf] at h; cases h
          | some cs =>
            rw [hf] at h
            simp only [Option.map_some, Option.some.injEq] at h
            subst h
            obtain ⟨r', hr', hvr⟩ := dfill_sound (β := β) (place' := fun j => some (j * ie.size, ie.size)) (fun j p hp => hp) parts parts' _ z.cells cs hf hvz hm hvl
            refine ⟨.agg r', ?_, V.agg' hvr⟩
            simp only [Instr.build, Sem.run_bind, hzero, Result.andThen_ok, hr, run_size (hC.ty _ _ hte)]
            simp only [hr']
            rfl
        · cases h
      · cases h

theorem dassert_sound {x x' r : Value} {xt asserted : TypeId} {ok : Bool} (h : dassert C x asserted ok = some r) (hx : V β x x') (w : World) : ∃ r', (Instr.typeAssert x' xt asserted ok).run P w = .ok r' w ∧ V β r r' := by
  unfold dassert at h
  cases ht : C.ty.get asserted with
  | none => simp [ht] at h
  | some i =>
    have hi := hC.ty _ i ht
    obtain ⟨d, hd, hund, hr⟩ := run_kind hC ht
    simp only [ht] at h
    have hni : ∀ ms, concrete i.kind = true → d ≠ .interface ms := by
      intro ms hc e; subst e
      cases hk : i.kind <;> rw [hk] at hd hc <;> simp [dkRel, concrete] at hd hc
    have two : ∀ (a b a' b' : Value), V β a a' → V β b b' → V β (.tuple #[a, b]) (.tuple #[a', b']) := fun a b a' b' h1 h2 => V.tuple' (VL.cons h1 (VL.cons h2 (VL.nil β)))
    split at h
    case isFalse => cases h
    rename_i hcon
    replace hni := fun ms => hni ms hcon
    have main := h
    clear h
    unfold dassertV at main
    unfold Instr.typeAssert
    simp only [Sem.run_bind, hr, Result.andThen_ok]
    split at main
    · rename_i z hz
      cases hx
      split at main
      · rename_i hok
        subst hok
        cases main
        refine ⟨_, ?_, two _ _ _ _ (plain_V β (hi.zero z hz).1) (.bool false)⟩
        cases d <;> first | (exact absurd rfl (hni _)) | (simp [run_zero hi hz])
      · cases main
    · rename_i t v z hz
      cases hx with
      | iface _ hv =>
        rename_i v'
        split at main
        · rename_i e
          subst e
          cases main
          cases ok with
          | true =>
            refine ⟨.tuple #[v', .bool true], ?_, two _ _ _ _ hv (.bool true)⟩
            cases d <;> first | (exact absurd rfl (hni _)) | (simp)
          | false =>
            refine ⟨v', ?_, hv⟩
            cases d <;> first | (exact absurd rfl (hni _)) | (simp)
        · rename_i e
          split at main
          · rename_i hok
            subst hok
            cases main
            refine ⟨_, ?_, two _ _ _ _ (plain_V β (hi.zero z hz).1) (.bool false)⟩
            cases d <;> first | (exact absurd rfl (hni _)) | (simp [e, run_zero hi hz])
          · cases main
    · cases main
end
end
end Go.Ds
