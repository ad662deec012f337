/- crucibleref1.next: the rune in front of a text. -/
import Derived.Test.YtnlnbhcjgacgmaaGreatDoorAqPure
import Derived.Test.YtnlnbhcjgacgmaaGreatDoorProg
import Derived.WalkKit
import Derived.IntWalk
import Derived.BigCall
set_option linter.unusedVariables false
set_option linter.unusedSimpArgs false
namespace Go.Proofs
open Go.RowKit

theorem Aq.getD_at (s : ByteArray) (i : Nat) (h : i < s.size) : s.data.toList.getD i 0 = s[i] := by
  have h' : i < s.data.toList.length := by rw [Array.length_toList]; exact h
  rw [List.getD_eq_getElem?_getD, List.getElem?_eq_getElem h', Option.getD_some]
  rfl

set_option maxHeartbeats 1000000 in
set_option maxRecDepth 1000000 in
theorem Aq.next_ascii (s : ByteArray) (w : World) (h0 : 0 < s.size) (hs : s.size ≤ 3000) (hc : (s[0]'h0).toNat < 128) :
    Calls Tryz.prog 23 #[.string s] w fun e w' => e = .returned (.tuple #[.int .i64 (s[0]'h0).toNat, .int .i64 1]) ∧ w' = w := by
  have hwr : wrap64 ((s[0]'h0).toNat : Int) = ((s[0]'h0).toNat : Int) := IntWalk.wrap64_in _ (by omega)
  go_enter Tryz.func23, Tryz.ntmps23
  go_wp2
  go_ret2
  exact ⟨by simp [hwr], rfl⟩
set_option maxHeartbeats 1000000 in
set_option maxRecDepth 1000000 in
theorem Aq.next_none (s : ByteArray) (w : World) (h0 : 0 < s.size) (hs : s.size ≤ 3000) (hc : 128 ≤ (s[0]'h0).toNat) (hd : (s[0]'h0).toNat < 194 ∨ 245 ≤ (s[0]'h0).toNat) :
    Calls Tryz.prog 23 #[.string s] w fun e w' => e = .returned (.tuple #[.int .i64 0, .int .i64 0]) ∧ w' = w := by
  have hub : (s[0]'h0).toNat < 256 := (s[0]'h0).toNat_lt
  rcases hd with hd | hd
  · go_enter Tryz.func23, Tryz.ntmps23
    go_wp2
    go_ret2
    exact ⟨rfl, rfl⟩
  · go_enter Tryz.func23, Tryz.ntmps23
    go_wp2
    go_ret2
    exact ⟨rfl, rfl⟩
set_option maxHeartbeats 1000000 in
set_option maxRecDepth 1000000 in
theorem Aq.next_short (s : ByteArray) (w : World) (h0 : 0 < s.size) (hs : s.size ≤ 3000) (hd : (194 ≤ (s[0]'h0).toNat ∧ (s[0]'h0).toNat < 224 ∧ s.size < 2) ∨ (224 ≤ (s[0]'h0).toNat ∧ (s[0]'h0).toNat < 240 ∧ s.size < 3) ∨ (240 ≤ (s[0]'h0).toNat ∧ (s[0]'h0).toNat < 245 ∧ s.size < 4)) :
    Calls Tryz.prog 23 #[.string s] w fun e w' => e = .returned (.tuple #[.int .i64 0, .int .i64 0]) ∧ w' = w := by
  rcases hd with ⟨a, b, c⟩ | ⟨a, b, c⟩ | ⟨a, b, c⟩
  all_goals
    go_enter Tryz.func23, Tryz.ntmps23
    go_wp2
    go_ret2
    exact ⟨rfl, rfl⟩

/-- The loop's places: behind k - 1 bytes. -/
def Aq.NR (n : Nat) (c0 b1 b2 b3 : Int) (r i : Value) : Prop :=
  (i = .int .i64 1 ∧ r = .int .i64 c0) ∨ (2 ≤ n ∧ 128 ≤ b1 ∧ b1 < 192 ∧ i = .int .i64 2 ∧ r = .int .i64 (c0 * 64 + b1 - 128)) ∨
  (3 ≤ n ∧ 128 ≤ b1 ∧ b1 < 192 ∧ 128 ≤ b2 ∧ b2 < 192 ∧ i = .int .i64 3 ∧ r = .int .i64 ((c0 * 64 + b1 - 128) * 64 + b2 - 128)) ∨
  (4 ≤ n ∧ 128 ≤ b1 ∧ b1 < 192 ∧ 128 ≤ b2 ∧ b2 < 192 ∧ 128 ≤ b3 ∧ b3 < 192 ∧ i = .int .i64 4 ∧ r = .int .i64 (((c0 * 64 + b1 - 128) * 64 + b2 - 128) * 64 + b3 - 128))
def Aq.ret (r n : Int) : Ending := .returned (.tuple #[.int .i64 r, .int .i64 n])
set_option maxHeartbeats 2000000 in
set_option maxRecDepth 1000000 in
theorem Aq.next_two (s : ByteArray) (w : World) (h0 : 0 < s.size) (h1 : 1 < s.size) (hs : s.size ≤ 3000) (a : 194 ≤ (s[0]'h0).toNat) (b : (s[0]'h0).toNat < 224) :
    Calls Tryz.prog 23 #[.string s] w fun e w' => e = .returned (if 128 ≤ (s[1]'h1).toNat ∧ (s[1]'h1).toNat < 192 then .tuple #[.int .i64 (((s[0]'h0).toNat - 192 : Int) * 64 + (s[1]'h1).toNat - 128), .int .i64 2] else .tuple #[.int .i64 0, .int .i64 0]) ∧ w' = w := by
  have d1 : decide (((s[0]'h0).toNat : Int) < 128) = false := by simp; omega
  have d2 : decide (((s[0]'h0).toNat : Int) < 224) = true := by simp; omega
  have d3 : decide ((s.size : Int) < 2) = false := by simp; omega
  by_cases hc : 128 ≤ (s[1]'h1).toNat ∧ (s[1]'h1).toNat < 192
  · rw [if_pos hc]
    obtain ⟨c1, c2⟩ := hc
    go_enter Tryz.func23, Tryz.ntmps23
    go_wp2
    go_loop [6, 7] (fun r i => Aq.NR 2 ((s[0]'h0).toNat - 192) (s[1]'h1).toNat 0 0 r i) (fun _ i => (2 - intOf i).toNat)
    case atStart => exact .inl ⟨rfl, rfl⟩
    case round =>
      rcases hrel with ⟨rfl, rfl⟩ | ⟨-, -, -, rfl, rfl⟩ | ⟨h, -⟩ | ⟨h, -⟩
      · go_wp2
        go_round
        case rel => exact .inr (.inl ⟨by omega, by omega, by omega, rfl, rfl⟩)
        case measure => simp [intOf]
      · go_wp2
        go_ret2
        exact ⟨rfl, rfl⟩
      · omega
      · omega
  · rw [if_neg hc]
    by_cases c1 : 128 ≤ (s[1]'h1).toNat
    · have c2 : 192 ≤ (s[1]'h1).toNat := by omega
      clear hc
      go_enter Tryz.func23, Tryz.ntmps23
      go_wp2
      go_loop [6, 7] (fun r i => i = .int .i64 1) (fun _ i => (2 - intOf i).toNat)
      case atStart => exact rfl
      case round =>
        subst hrel
        go_wp2
        go_ret2
        exact ⟨rfl, rfl⟩
    · clear hc
      go_enter Tryz.func23, Tryz.ntmps23
      go_wp2
      go_loop [6, 7] (fun r i => i = .int .i64 1) (fun _ i => (2 - intOf i).toNat)
      case atStart => exact rfl
      case round =>
        subst hrel
        go_wp2
        go_ret2
        exact ⟨rfl, rfl⟩
end Go.Proofs
