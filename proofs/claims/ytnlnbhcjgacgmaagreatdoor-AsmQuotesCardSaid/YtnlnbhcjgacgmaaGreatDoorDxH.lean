/- The context of the Asm seat, and what the interpreter finds there. -/
import Derived.Test.YtnlnbhcjgacgmaaGreatDoorDxG
import Derived.Below
set_option linter.unusedVariables false
set_option linter.unusedSimpArgs false
set_option maxRecDepth 100000
namespace Go.Ds.Seat
open Go.Proofs
noncomputable section
theorem nobase_ok : CallOK Tryz.prog 8 nobase := fun f args H out H' h => by cases h
def okRows : Option (DOut × DH) → Bool
  | some (.ret v, _) => eqV 6 v rowsV
  | _ => false
theorem rows_run : okRows (cM 60 84 [] { t := .nil, n := 1000000 }) = true := by kernel_rfl
theorem rows_plain : plain rowsV = true := by kernel_rfl
theorem base84_ok : CallOK Tryz.prog 8 base84 := by
  intro f args H out H' h β w args' ha hR hG
  unfold base84 at h
  split at h
  · rename_i hf hn
    cases h
    have hf := Nat.eq_of_beq_eq_true hf
    subst hf
    have hr := rows_run
    unfold okRows at hr
    split at hr
    · rename_i v Hs' hc
      rw [eqV_eq _ _ _ hr] at hc
      refine (calls_pure (callM_ok ctx_ok mixed fns_ok nobase_ok 60) hc ⟨fun h o ho => (by cases ho), Nat.le_of_ble_eq_true hn⟩ (fun h o ho => (by cases ho)) rows_plain ha hR hG).mono fun e w' he => ?_
      obtain ⟨rfl, h1, h2⟩ := he
      exact ⟨β, plain_V β rows_plain, h1, h2⟩
    · cases hr
  · cases h
theorem cB_ok (d : Nat) : CallOK Tryz.prog 8 (cB d) := callM_ok ctx_ok mixed fns_ok base84_ok d
/-- A world's package-level variables, seen from nothing. -/
def β0 : Emb := fun h => if h % 2 = 1 ∧ h / 2 < 8 then some ⟨h / 2, 0, 0⟩ else none
theorem β0_glob : GOK 8 β0 := fun g hg => ⟨0, by
  unfold β0
  rw [if_pos ⟨by omega, by omega⟩, show (2 * g + 1) / 2 = g by omega]⟩
theorem β0_R {w : World} (h8 : 8 ≤ w.heap.size) (n : Nat) : R β0 { t := .nil, n := n } w where
  obj := fun h o bi hg => by cases hg
  inj := fun h h' bi bi' hg => absurd rfl hg
  fresh := fun k _ => by unfold β0; rw [if_neg (by omega)]
  lt := fun h bi hb => by
    unfold β0 at hb
    split at hb
    · cases hb; simp only; omega
    · cases hb
theorem Ext.below {β β' : Emb} {n : Nat} {H' : DH} {w w' : World} (h : Ext β { t := .nil, n := n } w β' H' w') : Go.RowKit.Below w.heap.size w w' :=
  ⟨h.os, h.tape, h.output, h.size, fun k hk => h.keep k hk fun x bi hx => absurd rfl hx⟩
/-- What leaves nothing behind, and gives a plain value: from nothing. -/
theorem calls_of_run {call : Calling} (hcall : CallOK Tryz.prog 8 call) {f : FuncId} {args : List Value} {v : Value} {n : Nat} {H' : DH} (h : call f args { t := .nil, n := n } = some (.ret v, H')) (hp : plain v = true) (ha : args.all plain = true) (w : World) (h8 : 8 ≤ w.heap.size) :
    Calls Tryz.prog f ⟨args⟩ w fun e w' => e = .returned v ∧ Go.RowKit.Below w.heap.size w w' := by
  refine (calls_pure hcall h ⟨fun _ _ h => h, Nat.le_refl _⟩ (fun h o ho => (by cases ho)) hp (VL.of_plain (β := β0) (fun x hx => plain_V β0 hx) ha) (β0_R h8 n) β0_glob).mono fun e w' he => ?_
  obtain ⟨rfl, h1, h2⟩ := he
  exact ⟨rfl, Ext.below h2⟩
theorem shown_run : okRet (cB 60 8 [] { t := .nil, n := 0 }) = true := by kernel_rfl
/-- The head of all laws of the chapter. -/
theorem shown_calls (w : World) (h8 : 8 ≤ w.heap.size) : Calls Tryz.prog 8 #[] w fun e w' => e = .returned (.bool true) ∧ Go.RowKit.Below w.heap.size w w' := by
  have h := shown_run
  unfold okRet at h
  split at h
  · rename_i H' hc
    exact calls_of_run (cB_ok 60) hc rfl rfl w h8
  · cases h
end
end Go.Ds.Seat
