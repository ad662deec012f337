/- The context of the Asm seat, and what the interpreter finds there. -/
import Derived.Test.YtnlnbhcjgacgmaaGreatDoorDx2
set_option linter.unusedVariables false
set_option linter.unusedSimpArgs false
set_option maxRecDepth 100000
namespace Go.Ds
noncomputable section
namespace Tr
variable {α : Type}
def optAll (q : α → Bool) : Option α → Bool
  | some x => q x
  | none => true
/-- Every entry passes. -/
def all (p : Nat → α → Bool) (t : Tr α) : (Nat → Nat) → Bool :=
  Tr.rec (motive := fun _ => (Nat → Nat) → Bool) (fun _ => true) (fun v _ _ al ar f => optAll (p (f 0)) v && (al (fun k => f (2 * k + 1)) && ar (fun k => f (2 * k + 2)))) t
theorem all_spec {p : Nat → α → Bool} {t : Tr α} : ∀ {f : Nat → Nat}, t.all p f = true → ∀ k x, t.get k = some x → p (f k) x = true := by
  induction t with
  | nil => intro f _ k x h; cases h
  | node v l r ihl ihr =>
    intro f h k x hk
    change (optAll (p (f 0)) v && (l.all p (fun k => f (2 * k + 1)) && r.all p (fun k => f (2 * k + 2)))) = true at h
    rw [Bool.and_eq_true, Bool.and_eq_true] at h
    obtain ⟨h1, h2, h3⟩ := h
    cases k with
    | zero =>
      rw [get_zero] at hk
      subst hk
      exact h1
    | succ j =>
      rw [get_succ] at hk
      by_cases e : j % 2 = 0
      · rw [if_pos e] at hk
        have := ihl h2 _ _ hk
        rwa [show 2 * (j / 2) + 1 = j + 1 by omega] at this
      · rw [if_neg e] at hk
        have := ihr h3 _ _ hk
        rwa [show 2 * (j / 2) + 2 = j + 1 by omega] at this
end Tr
def tiChk2 (P : Program) (t : TypeId) (i : TI) : Bool :=
  match P.underlying t, P.info? t with
  | some d, some info => decide (info.size = i.size) && decide (info.bytes = i.bytes) && dkRel i.kind d && (!i.eqok || eqokRel P t d) &&
    (match info.zero, i.zero with
     | some z, some z' => plain z' && decide (z'.cells.size = i.size) && eqV 12 z z'
     | _, none => true
     | none, some _ => false) &&
    (match d with | .struct fields => fields.toList.all fun f => (P.info? f.type).isSome | _ => true)
  | _, _ => false
theorem tiChk2_ok {P : Program} {t : TypeId} {i : TI} (h : tiChk2 P t i = true) : TIok P t i := by
  unfold tiChk2 at h
  split at h
  · rename_i d info hd hi
    simp only [Bool.and_eq_true, decide_eq_true_eq, Bool.or_eq_true, Bool.not_eq_true'] at h
    obtain ⟨⟨⟨⟨⟨h1, h2⟩, h3⟩, h4⟩, h5⟩, h6⟩ := h
    refine ⟨⟨d, hd, h3, fun he => ?_⟩, ⟨info, hi, h1, h2, fun z hz => ?_⟩, fun z hz => ?_, fun fields hf f hfm => ?_⟩
    · rcases h4 with h4 | h4
      · rw [he] at h4; cases h4
      · exact h4
    · rw [hz] at h5
      cases hz2 : info.zero with
      | none => rw [hz2] at h5; cases h5
      | some z2 =>
        rw [hz2] at h5
        simp only [Bool.and_eq_true] at h5
        rw [eqV_eq _ _ _ h5.2]
    · rw [hz] at h5
      cases hz2 : info.zero with
      | none => rw [hz2] at h5; cases h5
      | some z2 =>
        rw [hz2] at h5
        simp only [Bool.and_eq_true, decide_eq_true_eq] at h5
        exact h5.1
    · rw [hd] at hf
      cases hf
      simp only [List.all_eq_true] at h6
      exact Option.isSome_iff_exists.1 (h6 f hfm)
  · cases h
end
end Go.Ds
namespace Go.Ds.Seat
open Go.Proofs
noncomputable section
def fnOkB (f : Nat) (F : Func) : Bool := match F.body with | some c => codeOk F.ntmps 8 (drF f) c && !(F.name == "runtime.NumGoroutine") | none => false
def tyOkB (t : Nat) (i : TI) : Bool := tiChk2 Tryz.prog t i
def bn (b : Bool) : Nat := if b then 1 else 0
end
end Go.Ds.Seat
