/- crucibleref1.next at four bytes. -/
import Derived.Test.YtnlnbhcjgacgmaaGreatDoorAqNext
set_option linter.unusedVariables false
set_option linter.unusedSimpArgs false
namespace Go.Proofs
open Go.RowKit

set_option maxHeartbeats 2000000 in
set_option maxRecDepth 1000000 in
theorem Aq.next_4_bad1 (s : ByteArray) (w : World) (h0 : 0 < s.size) (h1 : 1 < s.size) (h2 : 2 < s.size) (h3 : 3 < s.size) (hs : s.size ≤ 3000) (a : 240 ≤ (s[0]'h0).toNat) (b : (s[0]'h0).toNat < 245)  (hbad : (s[1]'h1).toNat < 128 ∨ 192 ≤ (s[1]'h1).toNat) :
    Calls Tryz.prog 23 #[.string s] w fun e w' => e = Aq.ret 0 0 ∧ w' = w := by
  have d0 : (128 : Int) ≤ ((s[0]'h0).toNat : Int) := by omega
  have d1 : decide (((s[0]'h0).toNat : Int) < 128) = false := by simp; omega
  have d4 : decide (194 ≤ ((s[0]'h0).toNat : Int)) = true := by simp; omega
  have d5 : decide (((s[0]'h0).toNat : Int) < 224) = false := by simp; omega
  have d6 : decide (((s[0]'h0).toNat : Int) < 240) = false := by simp; omega
  have d7 : decide (224 ≤ ((s[0]'h0).toNat : Int)) = true := by simp; omega
  have d8 : decide (((s[0]'h0).toNat : Int) < 245) = true := by simp; omega
  have d3 : decide ((s.size : Int) < 4) = false := by simp; omega
  rcases hbad with hbad | hbad
  all_goals
    go_enter Tryz.func23, Tryz.ntmps23
    go_wp2
    go_loop [6, 7] (fun r i => Aq.NR 4 ((s[0]'h0).toNat - 240) (s[1]'h1).toNat (s[2]'h2).toNat (s[3]'h3).toNat r i) (fun _ i => (4 - intOf i).toNat)
    case atStart => exact .inl ⟨rfl, rfl⟩
    case round =>
      rcases hrel with ⟨rfl, rfl⟩ | ⟨-, p1, q1, rfl, rfl⟩ | ⟨h, p1, q1, p2, q2, rfl, rfl⟩ | ⟨h, p1, q1, p2, q2, p3, q3, rfl, rfl⟩
      · go_wp2
        go_ret2
        exact ⟨rfl, rfl⟩
      · omega
      · omega
      · omega

set_option maxHeartbeats 2000000 in
set_option maxRecDepth 1000000 in
theorem Aq.next_4_bad2 (s : ByteArray) (w : World) (h0 : 0 < s.size) (h1 : 1 < s.size) (h2 : 2 < s.size) (h3 : 3 < s.size) (hs : s.size ≤ 3000) (a : 240 ≤ (s[0]'h0).toNat) (b : (s[0]'h0).toNat < 245) (g1 : 128 ≤ (s[1]'h1).toNat ∧ (s[1]'h1).toNat < 192) (hbad : (s[2]'h2).toNat < 128 ∨ 192 ≤ (s[2]'h2).toNat) :
    Calls Tryz.prog 23 #[.string s] w fun e w' => e = Aq.ret 0 0 ∧ w' = w := by
  have d0 : (128 : Int) ≤ ((s[0]'h0).toNat : Int) := by omega
  have d1 : decide (((s[0]'h0).toNat : Int) < 128) = false := by simp; omega
  have d4 : decide (194 ≤ ((s[0]'h0).toNat : Int)) = true := by simp; omega
  have d5 : decide (((s[0]'h0).toNat : Int) < 224) = false := by simp; omega
  have d6 : decide (((s[0]'h0).toNat : Int) < 240) = false := by simp; omega
  have d7 : decide (224 ≤ ((s[0]'h0).toNat : Int)) = true := by simp; omega
  have d8 : decide (((s[0]'h0).toNat : Int) < 245) = true := by simp; omega
  have d3 : decide ((s.size : Int) < 4) = false := by simp; omega
  obtain ⟨g1a, g1b⟩ := g1
  rcases hbad with hbad | hbad
  all_goals
    go_enter Tryz.func23, Tryz.ntmps23
    go_wp2
    go_loop [6, 7] (fun r i => Aq.NR 4 ((s[0]'h0).toNat - 240) (s[1]'h1).toNat (s[2]'h2).toNat (s[3]'h3).toNat r i) (fun _ i => (4 - intOf i).toNat)
    case atStart => exact .inl ⟨rfl, rfl⟩
    case round =>
      rcases hrel with ⟨rfl, rfl⟩ | ⟨-, p1, q1, rfl, rfl⟩ | ⟨h, p1, q1, p2, q2, rfl, rfl⟩ | ⟨h, p1, q1, p2, q2, p3, q3, rfl, rfl⟩
      · go_wp2
        go_round
        case rel => exact .inr (.inl ⟨by omega, by omega, by omega, rfl, rfl⟩)
        case measure => simp [intOf]
      · go_wp2
        go_ret2
        exact ⟨rfl, rfl⟩
      · omega
      · omega

set_option maxHeartbeats 2000000 in
set_option maxRecDepth 1000000 in
theorem Aq.next_4_bad3 (s : ByteArray) (w : World) (h0 : 0 < s.size) (h1 : 1 < s.size) (h2 : 2 < s.size) (h3 : 3 < s.size) (hs : s.size ≤ 3000) (a : 240 ≤ (s[0]'h0).toNat) (b : (s[0]'h0).toNat < 245) (g1 : 128 ≤ (s[1]'h1).toNat ∧ (s[1]'h1).toNat < 192) (g2 : 128 ≤ (s[2]'h2).toNat ∧ (s[2]'h2).toNat < 192) (hbad : (s[3]'h3).toNat < 128 ∨ 192 ≤ (s[3]'h3).toNat) :
    Calls Tryz.prog 23 #[.string s] w fun e w' => e = Aq.ret 0 0 ∧ w' = w := by
  have d0 : (128 : Int) ≤ ((s[0]'h0).toNat : Int) := by omega
  have d1 : decide (((s[0]'h0).toNat : Int) < 128) = false := by simp; omega
  have d4 : decide (194 ≤ ((s[0]'h0).toNat : Int)) = true := by simp; omega
  have d5 : decide (((s[0]'h0).toNat : Int) < 224) = false := by simp; omega
  have d6 : decide (((s[0]'h0).toNat : Int) < 240) = false := by simp; omega
  have d7 : decide (224 ≤ ((s[0]'h0).toNat : Int)) = true := by simp; omega
  have d8 : decide (((s[0]'h0).toNat : Int) < 245) = true := by simp; omega
  have d3 : decide ((s.size : Int) < 4) = false := by simp; omega
  obtain ⟨g1a, g1b⟩ := g1
  obtain ⟨g2a, g2b⟩ := g2
  rcases hbad with hbad | hbad
  all_goals
    go_enter Tryz.func23, Tryz.ntmps23
    go_wp2
    go_loop [6, 7] (fun r i => Aq.NR 4 ((s[0]'h0).toNat - 240) (s[1]'h1).toNat (s[2]'h2).toNat (s[3]'h3).toNat r i) (fun _ i => (4 - intOf i).toNat)
    case atStart => exact .inl ⟨rfl, rfl⟩
    case round =>
      rcases hrel with ⟨rfl, rfl⟩ | ⟨-, p1, q1, rfl, rfl⟩ | ⟨h, p1, q1, p2, q2, rfl, rfl⟩ | ⟨h, p1, q1, p2, q2, p3, q3, rfl, rfl⟩
      · go_wp2
        go_round
        case rel => exact .inr (.inl ⟨by omega, by omega, by omega, rfl, rfl⟩)
        case measure => simp [intOf]
      · go_wp2
        go_round
        case rel => exact .inr (.inr (.inl ⟨by omega, by omega, by omega, by omega, by omega, rfl, rfl⟩))
        case measure => simp [intOf]
      · go_wp2
        go_ret2
        exact ⟨rfl, rfl⟩
      · omega

set_option maxHeartbeats 2000000 in
set_option maxRecDepth 1000000 in
theorem Aq.next_4_low (s : ByteArray) (w : World) (h0 : 0 < s.size) (h1 : 1 < s.size) (h2 : 2 < s.size) (h3 : 3 < s.size) (hs : s.size ≤ 3000) (a : 240 ≤ (s[0]'h0).toNat) (b : (s[0]'h0).toNat < 245) (g1 : 128 ≤ (s[1]'h1).toNat ∧ (s[1]'h1).toNat < 192) (g2 : 128 ≤ (s[2]'h2).toNat ∧ (s[2]'h2).toNat < 192) (g3 : 128 ≤ (s[3]'h3).toNat ∧ (s[3]'h3).toNat < 192) (hv : (((((s[0]'h0).toNat - 240 : Int) * 64 + (s[1]'h1).toNat - 128) * 64 + (s[2]'h2).toNat - 128) * 64 + (s[3]'h3).toNat - 128) < 65536) :
    Calls Tryz.prog 23 #[.string s] w fun e w' => e = Aq.ret 0 0 ∧ w' = w := by
  have d0 : (128 : Int) ≤ ((s[0]'h0).toNat : Int) := by omega
  have d1 : decide (((s[0]'h0).toNat : Int) < 128) = false := by simp; omega
  have d4 : decide (194 ≤ ((s[0]'h0).toNat : Int)) = true := by simp; omega
  have d5 : decide (((s[0]'h0).toNat : Int) < 224) = false := by simp; omega
  have d6 : decide (((s[0]'h0).toNat : Int) < 240) = false := by simp; omega
  have d7 : decide (224 ≤ ((s[0]'h0).toNat : Int)) = true := by simp; omega
  have d8 : decide (((s[0]'h0).toNat : Int) < 245) = true := by simp; omega
  have d3 : decide ((s.size : Int) < 4) = false := by simp; omega
  obtain ⟨g1a, g1b⟩ := g1
  obtain ⟨g2a, g2b⟩ := g2
  obtain ⟨g3a, g3b⟩ := g3
  go_enter Tryz.func23, Tryz.ntmps23
  go_wp2
  go_loop [6, 7] (fun r i => Aq.NR 4 ((s[0]'h0).toNat - 240) (s[1]'h1).toNat (s[2]'h2).toNat (s[3]'h3).toNat r i) (fun _ i => (4 - intOf i).toNat)
  case atStart => exact .inl ⟨rfl, rfl⟩
  case round =>
    rcases hrel with ⟨rfl, rfl⟩ | ⟨-, p1, q1, rfl, rfl⟩ | ⟨h, p1, q1, p2, q2, rfl, rfl⟩ | ⟨h, p1, q1, p2, q2, p3, q3, rfl, rfl⟩
    · go_wp2
      go_round
      case rel => exact .inr (.inl ⟨by omega, by omega, by omega, rfl, rfl⟩)
      case measure => simp [intOf]
    · go_wp2
      go_round
      case rel => exact .inr (.inr (.inl ⟨by omega, by omega, by omega, by omega, by omega, rfl, rfl⟩))
      case measure => simp [intOf]
    · go_wp2
      go_round
      case rel => exact .inr (.inr (.inr ⟨by omega, by omega, by omega, by omega, by omega, by omega, by omega, rfl, rfl⟩))
      case measure => simp [intOf]
    · go_wp2
      go_ret2
      exact ⟨rfl, rfl⟩

set_option maxHeartbeats 2000000 in
set_option maxRecDepth 1000000 in
theorem Aq.next_4_big (s : ByteArray) (w : World) (h0 : 0 < s.size) (h1 : 1 < s.size) (h2 : 2 < s.size) (h3 : 3 < s.size) (hs : s.size ≤ 3000) (a : 240 ≤ (s[0]'h0).toNat) (b : (s[0]'h0).toNat < 245) (g1 : 128 ≤ (s[1]'h1).toNat ∧ (s[1]'h1).toNat < 192) (g2 : 128 ≤ (s[2]'h2).toNat ∧ (s[2]'h2).toNat < 192) (g3 : 128 ≤ (s[3]'h3).toNat ∧ (s[3]'h3).toNat < 192) (hv : 1114111 < (((((s[0]'h0).toNat - 240 : Int) * 64 + (s[1]'h1).toNat - 128) * 64 + (s[2]'h2).toNat - 128) * 64 + (s[3]'h3).toNat - 128)) :
    Calls Tryz.prog 23 #[.string s] w fun e w' => e = Aq.ret 0 0 ∧ w' = w := by
  have d0 : (128 : Int) ≤ ((s[0]'h0).toNat : Int) := by omega
  have d1 : decide (((s[0]'h0).toNat : Int) < 128) = false := by simp; omega
  have d4 : decide (194 ≤ ((s[0]'h0).toNat : Int)) = true := by simp; omega
  have d5 : decide (((s[0]'h0).toNat : Int) < 224) = false := by simp; omega
  have d6 : decide (((s[0]'h0).toNat : Int) < 240) = false := by simp; omega
  have d7 : decide (224 ≤ ((s[0]'h0).toNat : Int)) = true := by simp; omega
  have d8 : decide (((s[0]'h0).toNat : Int) < 245) = true := by simp; omega
  have d3 : decide ((s.size : Int) < 4) = false := by simp; omega
  obtain ⟨g1a, g1b⟩ := g1
  obtain ⟨g2a, g2b⟩ := g2
  obtain ⟨g3a, g3b⟩ := g3
  go_enter Tryz.func23, Tryz.ntmps23
  go_wp2
  go_loop [6, 7] (fun r i => Aq.NR 4 ((s[0]'h0).toNat - 240) (s[1]'h1).toNat (s[2]'h2).toNat (s[3]'h3).toNat r i) (fun _ i => (4 - intOf i).toNat)
  case atStart => exact .inl ⟨rfl, rfl⟩
  case round =>
    rcases hrel with ⟨rfl, rfl⟩ | ⟨-, p1, q1, rfl, rfl⟩ | ⟨h, p1, q1, p2, q2, rfl, rfl⟩ | ⟨h, p1, q1, p2, q2, p3, q3, rfl, rfl⟩
    · go_wp2
      go_round
      case rel => exact .inr (.inl ⟨by omega, by omega, by omega, rfl, rfl⟩)
      case measure => simp [intOf]
    · go_wp2
      go_round
      case rel => exact .inr (.inr (.inl ⟨by omega, by omega, by omega, by omega, by omega, rfl, rfl⟩))
      case measure => simp [intOf]
    · go_wp2
      go_round
      case rel => exact .inr (.inr (.inr ⟨by omega, by omega, by omega, by omega, by omega, by omega, by omega, rfl, rfl⟩))
      case measure => simp [intOf]
    · go_wp2
      go_ret2
      exact ⟨rfl, rfl⟩

set_option maxHeartbeats 2000000 in
set_option maxRecDepth 1000000 in
theorem Aq.next_4_ok (s : ByteArray) (w : World) (h0 : 0 < s.size) (h1 : 1 < s.size) (h2 : 2 < s.size) (h3 : 3 < s.size) (hs : s.size ≤ 3000) (a : 240 ≤ (s[0]'h0).toNat) (b : (s[0]'h0).toNat < 245) (g1 : 128 ≤ (s[1]'h1).toNat ∧ (s[1]'h1).toNat < 192) (g2 : 128 ≤ (s[2]'h2).toNat ∧ (s[2]'h2).toNat < 192) (g3 : 128 ≤ (s[3]'h3).toNat ∧ (s[3]'h3).toNat < 192) (hv : 65536 ≤ (((((s[0]'h0).toNat - 240 : Int) * 64 + (s[1]'h1).toNat - 128) * 64 + (s[2]'h2).toNat - 128) * 64 + (s[3]'h3).toNat - 128)) (hv2 : (((((s[0]'h0).toNat - 240 : Int) * 64 + (s[1]'h1).toNat - 128) * 64 + (s[2]'h2).toNat - 128) * 64 + (s[3]'h3).toNat - 128) ≤ 1114111) :
    Calls Tryz.prog 23 #[.string s] w fun e w' => e = Aq.ret (((((s[0]'h0).toNat - 240 : Int) * 64 + (s[1]'h1).toNat - 128) * 64 + (s[2]'h2).toNat - 128) * 64 + (s[3]'h3).toNat - 128) 4 ∧ w' = w := by
  have d0 : (128 : Int) ≤ ((s[0]'h0).toNat : Int) := by omega
  have d1 : decide (((s[0]'h0).toNat : Int) < 128) = false := by simp; omega
  have d4 : decide (194 ≤ ((s[0]'h0).toNat : Int)) = true := by simp; omega
  have d5 : decide (((s[0]'h0).toNat : Int) < 224) = false := by simp; omega
  have d6 : decide (((s[0]'h0).toNat : Int) < 240) = false := by simp; omega
  have d7 : decide (224 ≤ ((s[0]'h0).toNat : Int)) = true := by simp; omega
  have d8 : decide (((s[0]'h0).toNat : Int) < 245) = true := by simp; omega
  have d3 : decide ((s.size : Int) < 4) = false := by simp; omega
  obtain ⟨g1a, g1b⟩ := g1
  obtain ⟨g2a, g2b⟩ := g2
  obtain ⟨g3a, g3b⟩ := g3
  go_enter Tryz.func23, Tryz.ntmps23
  go_wp2
  go_loop [6, 7] (fun r i => Aq.NR 4 ((s[0]'h0).toNat - 240) (s[1]'h1).toNat (s[2]'h2).toNat (s[3]'h3).toNat r i) (fun _ i => (4 - intOf i).toNat)
  case atStart => exact .inl ⟨rfl, rfl⟩
  case round =>
    rcases hrel with ⟨rfl, rfl⟩ | ⟨-, p1, q1, rfl, rfl⟩ | ⟨h, p1, q1, p2, q2, rfl, rfl⟩ | ⟨h, p1, q1, p2, q2, p3, q3, rfl, rfl⟩
    · go_wp2
      go_round
      case rel => exact .inr (.inl ⟨by omega, by omega, by omega, rfl, rfl⟩)
      case measure => simp [intOf]
    · go_wp2
      go_round
      case rel => exact .inr (.inr (.inl ⟨by omega, by omega, by omega, by omega, by omega, rfl, rfl⟩))
      case measure => simp [intOf]
    · go_wp2
      go_round
      case rel => exact .inr (.inr (.inr ⟨by omega, by omega, by omega, by omega, by omega, by omega, by omega, rfl, rfl⟩))
      case measure => simp [intOf]
    · go_wp2
      go_ret2
      exact ⟨rfl, rfl⟩
end Go.Proofs
