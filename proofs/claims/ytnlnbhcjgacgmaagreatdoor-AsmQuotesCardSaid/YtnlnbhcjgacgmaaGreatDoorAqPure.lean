/- The plain law of AsmQuotes: what a quoted text is; that two texts that are quoted alike are alike. No program in sight. -/
import Derived.Lib.MapLaws
set_option linter.unusedVariables false
set_option linter.unusedSimpArgs false
namespace Go.Aq
open Go.Lib

def hexL : List UInt8 := [48, 49, 50, 51, 52, 53, 54, 55, 56, 57, 97, 98, 99, 100, 101, 102]
def hexd (n : Nat) : UInt8 := hexL.getD n 0
/-- What a rune is written as. -/
def esc (r : Nat) : List UInt8 :=
  if r = 34 ∨ r = 92 then [92] ++ encodeRune (r : Int)
  else if r = 10 then [92, 110]
  else if r < 32 ∨ r = 127 then [92, 120] ++ [hexd (r / 16)] ++ [hexd (r % 16)]
  else encodeRune (r : Int)
def body : Nat → List UInt8 → List UInt8
  | 0, _ => []
  | f + 1, l => if l = [] then [] else esc (decodeL l).1 ++ body f (l.drop (decodeL l).2)
def quote (l : List UInt8) : List UInt8 := [34] ++ body l.length l ++ [34]

/-! ### The reference's reading of a rune -/
def contB (x : Nat) : Bool := decide (128 ≤ x) && decide (x < 192)
def nextL (l : List UInt8) : Nat × Nat :=
  let b0 := (l.getD 0 0).toNat
  let b1 := (l.getD 1 0).toNat
  let b2 := (l.getD 2 0).toNat
  let b3 := (l.getD 3 0).toNat
  if b0 < 128 then (b0, 1)
  else if 194 ≤ b0 ∧ b0 < 224 then
    if 2 ≤ l.length ∧ contB b1 = true then ((b0 - 192) * 64 + (b1 - 128), 2) else (0, 0)
  else if 224 ≤ b0 ∧ b0 < 240 then
    if 3 ≤ l.length ∧ contB b1 = true ∧ contB b2 = true ∧ 2048 ≤ ((b0 - 224) * 64 + (b1 - 128)) * 64 + (b2 - 128) ∧ ¬ (55296 ≤ ((b0 - 224) * 64 + (b1 - 128)) * 64 + (b2 - 128) ∧ ((b0 - 224) * 64 + (b1 - 128)) * 64 + (b2 - 128) < 57344) then
      (((b0 - 224) * 64 + (b1 - 128)) * 64 + (b2 - 128), 3) else (0, 0)
  else if 240 ≤ b0 ∧ b0 < 245 then
    if 4 ≤ l.length ∧ contB b1 = true ∧ contB b2 = true ∧ contB b3 = true ∧ 65536 ≤ (((b0 - 240) * 64 + (b1 - 128)) * 64 + (b2 - 128)) * 64 + (b3 - 128) ∧ (((b0 - 240) * 64 + (b1 - 128)) * 64 + (b2 - 128)) * 64 + (b3 - 128) ≤ 1114111 then
      ((((b0 - 240) * 64 + (b1 - 128)) * 64 + (b2 - 128)) * 64 + (b3 - 128), 4) else (0, 0)
  else (0, 0)
/-- Is all of it read? -/
def okL : Nat → List UInt8 → Bool
  | 0, _ => true
  | f + 1, l => if l = [] then true else if (nextL l).2 = 0 then false else okL f (l.drop (nextL l).2)

theorem contB_spec {x : Nat} : contB x = true ↔ 128 ≤ x ∧ x < 192 := by simp [contB]
theorem next_decode (l : List UInt8) (hne : l ≠ []) (h : (nextL l).2 ≠ 0) : decodeL l = nextL l ∧ ¬ ((decodeL l).1 = 65533 ∧ (decodeL l).2 = 1) := by
  have hl : 0 < l.length := List.length_pos_iff.2 hne
  have k0 := (l.getD 0 0).toNat_lt
  have k1 := (l.getD 1 0).toNat_lt
  have k2 := (l.getD 2 0).toNat_lt
  have k3 := (l.getD 3 0).toNat_lt
  have hs := decodeN_shape l.length (l.getD 0 0).toNat (l.getD 1 0).toNat (l.getD 2 0).toNat (l.getD 3 0).toNat
  rw [decodeL_N]
  unfold nextL at h ⊢
  simp only at h ⊢
  generalize (l.getD 0 0).toNat = b0 at *
  generalize (l.getD 1 0).toNat = b1 at *
  generalize (l.getD 2 0).toNat = b2 at *
  generalize (l.getD 3 0).toNat = b3 at *
  generalize hn : l.length = n at *
  unfold decodeN
  by_cases c0 : b0 < 128
  · rw [if_pos c0] at h ⊢
    rw [if_pos c0]
    exact ⟨rfl, by simp; omega⟩
  · rw [if_neg c0] at h ⊢
    by_cases c1 : 194 ≤ b0 ∧ b0 < 224
    · rw [if_pos c1] at h ⊢
      by_cases c : 2 ≤ n ∧ contB b1 = true
      · rw [if_pos c] at h ⊢
        rw [contB_spec] at c
        rw [if_neg c0]
        repeat' split
        all_goals first
          | (exfalso; simp_all; omega)
          | (refine ⟨?_, ?_⟩ <;> simp <;> omega)
          | omega
      · rw [if_neg c] at h; simp at h
    · rw [if_neg c1] at h ⊢
      by_cases c2 : 224 ≤ b0 ∧ b0 < 240
      · rw [if_pos c2] at h ⊢
        split at h
        · rename_i c
          rw [if_pos c]
          rw [contB_spec, contB_spec] at c
          rw [if_neg c0]
          repeat' split
          all_goals first
            | (exfalso; simp_all; omega)
            | (refine ⟨?_, ?_⟩ <;> simp <;> omega)
            | omega
        · simp at h
      · rw [if_neg c2] at h ⊢
        split at h
        · rename_i c3
          rw [if_pos c3]
          split at h
          · rename_i c
            rw [if_pos c]
            rw [contB_spec, contB_spec, contB_spec] at c
            rw [if_neg c0]
            repeat' split
            all_goals first
              | (exfalso; simp_all; omega)
              | (refine ⟨?_, ?_⟩ <;> simp <;> omega)
              | omega
          · simp at h
        · simp at h
end Go.Aq
