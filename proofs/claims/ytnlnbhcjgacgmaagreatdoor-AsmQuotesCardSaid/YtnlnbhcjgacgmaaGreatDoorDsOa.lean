/- A deterministic layer over the model, part Oa: operations that only make something new. -/
import Derived.Test.YtnlnbhcjgacgmaaGreatDoorDsO
set_option linter.unusedVariables false
set_option linter.unusedSimpArgs false
namespace Go.Ds
noncomputable section

def allocs (o : Oper) : Bool :=
  match o.op with
  | .alloc _ => true
  | .box _ _ => true
  | .buildSlice _ _ _ => true
  | .makeMap _ none => true
  | _ => false

section
variable {P : Program} {C : Ctx} (hC : CtxOK P C) {β : Emb} {H : DH} {w : World}

theorem rowObj {β1 : Emb} (hle : EmbLe β β1) (e : TypeId) {cells cells' : List Value} (hv : VL β cells cells') (r lo hi : Nat) (hf : FR ⟨r, 0, cells'.length⟩ lo hi (0, 0)) :
    ObjRel β1 ⟨r, 0, cells'.length⟩ (.row cells e lo hi) (.cells ⟨cells'⟩ e (0, 0)) := by
  refine ⟨rfl, by simp, by have := hv.1; simp; omega, ?_, hf⟩
  refine VL_view (by have := hv.1; simp; omega) fun i x y hx hy => ?_
  simp only [Nat.zero_add, List.getElem?_toArray] at hy
  exact (hv.2 i x y hx hy).mono hle

omit hC in
theorem alloc_shape {ρ : Operand → Value} {o : Oper} {v : Value} {H1 : DH} (ha : allocs o = true) (h : dop C ρ o H = some (.val v, H1)) : ∃ ob, H1 = H.alloc ob := by
  obtain ⟨dst, op, type, pos, after, guard⟩ := o
  cases op <;> simp only [allocs, Bool.false_eq_true] at ha <;> simp only [dop] at h
  case alloc e =>
    split at h
    · split at h
      · cases h; exact ⟨_, rfl⟩
      · cases h
    · cases h
  case box e x => cases h; exact ⟨_, rfl⟩
  case makeMap t r =>
    cases r with
    | some _ => simp at ha
    | none => cases h; exact ⟨_, rfl⟩
  case buildSlice t len parts =>
    obtain ⟨p, hp, he⟩ := Option.map_eq_some_iff.1 h
    obtain ⟨r, H2⟩ := p
    cases he
    unfold dbuildSlice at hp
    repeat' (split at hp)
    all_goals first
      | (cases hp; exact ⟨_, rfl⟩)
      | cases hp
include hC
theorem alloc_raw {ρ ρ' : Operand → Value} {o : Oper} {v : Value} {H1 : DH} (ha : allocs o = true) (h : dop C ρ o H = some (.val v, H1)) (hρ : ∀ x ∈ o.op.operands.toList, V β (ρ x) (ρ' x)) (w : World) :
    ∃ ob x size v', H1 = H.alloc ob ∧ (execOp ρ' o).run P w = .ok (.value v') (w.alloc x) ∧
      ∀ β1, EmbLe β β1 → β1 (2 * H.n) = some ⟨w.heap.size, 0, size⟩ → V β1 v v' ∧ ObjRel β1 ⟨w.heap.size, 0, size⟩ ob x := by
  obtain ⟨dst, op, type, pos, after, guard⟩ := o
  cases op <;> simp only [allocs, Bool.false_eq_true] at ha <;> simp only [dop] at h <;> simp only [Op.operands] at hρ
  case alloc e =>
    split at h
    · rename_i i ht
      split at h
      · rename_i z hz
        have hi := hC.ty e i ht
        have hvz := (plain_V β (hi.zero z hz).1).cells
        cases h
        refine ⟨_, .cells z.cells e, z.cells.size, .pointer (some ⟨w.heap.size, 0, none⟩), rfl, ?_, fun β1 hle hb => ⟨?_, ?_⟩⟩
        · simp [execOp, newVar, newRow, run_zero hi hz, Instr.alloc]
        · have := V.ptr (β := β1) (o := 0) hb
          simpa [dnew] using this
        · have := rowObj hle e hvz w.heap.size 1 1 (FR_none _ 1 1 fun _ _ => rfl)
          simpa using this
      · cases h
    · cases h
  case box e x =>
    cases h
    have hv := (hρ x (by simp)).cells
    refine ⟨_, .cells (ρ' x).cells e, (ρ' x).cells.size, .pointer (some ⟨w.heap.size, 0, none⟩), rfl, ?_, fun β1 hle hb => ⟨?_, ?_⟩⟩
    · simp [execOp, Instr.box, newVar, newRow]
    · have := V.ptr (β := β1) (o := 0) hb
      simpa [dnew] using this
    · have := rowObj hle e hv w.heap.size 1 1 (FR_none _ 1 1 fun _ _ => rfl)
      simpa using this
  case makeMap t r =>
    cases r with
    | some _ => simp [allocs] at ha
    | none =>
      cases h
      refine ⟨_, .map #[] 0, 0, .map (some w.heap.size), rfl, ?_, fun β1 hle hb => ⟨V.map hb, VL.nil _, VL.nil _⟩⟩
      simp [execOp, Instr.makeMap]
  case buildSlice t len parts =>
    obtain ⟨p, hp, he⟩ := Option.map_eq_some_iff.1 h
    obtain ⟨r, H2⟩ := p
    cases he
    have hm := fst_parts (ρ := ρ) (ρ' := ρ') parts.toList
    have hvl := VL_parts (β := β) (ρ := ρ) (ρ' := ρ') parts.toList fun x hx => hρ x (by simpa using hx)
    generalize hP : (parts.toList.map fun p => (p.1, ρ p.2)) = ps at hp hm hvl
    generalize hP' : (parts.toList.map fun p => (p.1, ρ' p.2)) = ps' at hm hvl
    have hrun : (execOp ρ' { dst := dst, op := .buildSlice t len parts, type := type, pos := pos, after := after, guard := guard }).run P w = (do Pure.pure (Next.value (← Instr.buildSlice t len ⟨ps'⟩)) : Sem Next).run P w := by
      simp only [execOp]
      rw [arr_map (fun p => (p.1, ρ' p.2)) parts, ← hP']
    unfold dbuildSlice at hp
    cases ht : C.ty.get t with
    | none => simp [ht] at hp
    | some i =>
      obtain ⟨d, hd, _, hr⟩ := run_kind hC ht
      simp only [ht] at hp
      split at hp
      · rename_i e hk
        rw [hk] at hd; cases dk_slice hd
        cases hte : C.ty.get e with
        | none => simp [hte] at hp
        | some ie =>
          have hie := hC.ty e ie hte
          simp only [hte] at hp
          cases hz : ie.zero with
          | none => simp [hz] at hp
          | some z =>
            simp only [hz] at hp
            obtain ⟨hpz, hzs⟩ := hie.zero z hz
            split at hp
            · rename_i hc
              obtain ⟨hc1, hc2⟩ := hc
              split at hp
              · rename_i cs hf
                cases hp
                have hvz : VL β z.cells.toList z.cells.toList := (plain_V β hpz).cells
                have hzero := run_zero hie hz w
                have hrep : ((Array.range (len * ie.size)).map (z.cells[· % z.cells.size]!)).toList = rep z.cells.toList len := by rw [← hzs]; exact rep_model z.cells (by omega) len
                have hrepl : VL β (rep z.cells.toList len) ((Array.range (len * ie.size)).map (z.cells[· % z.cells.size]!)).toList := by rw [hrep]; exact VL_rep hvz len
                obtain ⟨r', hr', hvr⟩ := dfill_sound (β := β) (place' := fun j => some (j * ie.size, ie.size)) (fun j p hp => hp) ps ps' _ _ cs hf hrepl hm hvl
                have hlen : cs.length = len * ie.size := by
                  have : ∀ (ps : List (Nat × Value)) (c r : List Value), dfill (fun j => some (j * ie.size, ie.size)) c ps = some r → r.length = c.length := by
                    intro ps
                    induction ps with
                    | nil => intro c r h; simp only [dfill, Option.some.injEq] at h; subst h; rfl
                    | cons p ps ih =>
                      intro c r h
                      obtain ⟨j, v⟩ := p
                      simp only [dfill] at h
                      split at h
                      · rename_i hcc
                        rw [ih _ _ h, length_splice _ _ _ (by simp; omega)]
                      · cases h
                  rw [this _ _ _ hf, rep_length]
                  simp [hzs]
                refine ⟨_, .cells r' e, r'.size, .slice (some ⟨w.heap.size, 0, none⟩) len len, rfl, ?_, fun β1 hle hb => ⟨?_, ?_⟩⟩
                · rw [hrun]
                  have h24 : ¬ len * ie.size > 2 ^ 24 := by omega
                  by_cases h0 : len * ie.size = 0
                  · have hzero2 : ((Array.range (len * ie.size)).map (z.cells[· % z.cells.size]!)) = #[] := by rw [h0]; simp
                    have hzero3 : ∀ q : Array Value, ((Array.range (len * ie.size)).map (q[· % q.size]!)) = #[] := by intro q; rw [h0]; simp
                    rw [hzero2] at hr'
                    have e0 : Array.range 0 = (#[] : Array Nat) := by rw [← Array.size_eq_zero_iff]; simp
                    simp [Instr.buildSlice, hr, run_size hie, h0, hr', newRow, e0]
                  · simp [Instr.buildSlice, hr, run_size hie, h24, h0, hzero, hr', newRow]
                · refine .sl hb (Nat.le_refl _) (Nat.le_refl _) (.inr ⟨by simp, ?_⟩)
                  have := hvr.1
                  simp only [Array.length_toList] at this
                  simp; omega
                · have := rowObj hle e hvr w.heap.size 0 0 (FR_none _ 0 0 fun _ h => absurd h (Nat.lt_irrefl _))
                  simpa using this
              · cases hp
            · cases hp
      · cases hp
end
end
end Go.Ds
