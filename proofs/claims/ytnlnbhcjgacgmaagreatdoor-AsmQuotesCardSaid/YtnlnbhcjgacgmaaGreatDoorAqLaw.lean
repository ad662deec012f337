/- cruciblelaw22.AsmQuotes: it returns true, whatever the texts. -/
import Derived.Test.YtnlnbhcjgacgmaaGreatDoorDxH
import Derived.Test.YtnlnbhcjgacgmaaGreatDoorAqQuote
import Derived.Test.YtnlnbhcjgacgmaaGreatDoorAqRunes
import Derived.Test.YtnlnbhcjgacgmaaGreatDoorAqInj
set_option linter.unusedVariables false
set_option linter.unusedSimpArgs false
namespace Go.Proofs
open Go.RowKit

/-- What a text is quoted as. -/
def Aq.qB (a : ByteArray) : ByteArray := ⟨(Aq.quote a.data.toList).toArray⟩
def Aq.okB (a : ByteArray) : Bool := Aq.okL a.data.toList.length a.data.toList
theorem Aq.qB_size (a : ByteArray) : a.size + 2 ≤ (Aq.qB a).size := by
  have := Aq.quote_length a.data.toList
  rw [Array.length_toList] at this
  have h : (Aq.qB a).size = (Aq.quote a.data.toList).length := by unfold Aq.qB; show (List.toArray _).size = _; simp
  have h2 : a.size = a.data.size := rfl
  omega
theorem Aq.body_le : ∀ (f : Nat) (l : List UInt8), (Aq.body f l).length ≤ 4 * l.length := by
  intro f
  induction f with
  | zero => intro l; simp [Aq.body]
  | succ f ih =>
    intro l
    simp only [Aq.body]
    split
    · simp
    · rename_i e
      have h1 := Aq.esc_le (Lib.decodeL l).1
      have h2 := ih (l.drop (Lib.decodeL l).2)
      have h3 := Lib.decodeL_width l
      have h4 := List.length_pos_iff.2 e
      rw [List.length_drop] at h2
      rw [List.length_append]
      omega
theorem Aq.qB_max (a : ByteArray) (h : a.size ≤ 3000) : (Aq.qB a).size ≤ 12002 := by
  have := Aq.body_le a.data.toList.length a.data.toList
  have h2 : (Aq.qB a).size = (Aq.quote a.data.toList).length := by unfold Aq.qB; show (List.toArray _).size = _; simp
  have h3 : (Aq.quote a.data.toList).length = (Aq.body a.data.toList.length a.data.toList).length + 2 := by unfold Aq.quote; simp
  have h4 : a.data.toList.length = a.size := by rw [Array.length_toList]; rfl
  omega
theorem Aq.qB_inj (a b : ByteArray) (ha : Aq.okB a = true) (hb : Aq.okB b = true) (h : Aq.qB a = Aq.qB b) : a = b := by
  have h1 : Aq.quote a.data.toList = Aq.quote b.data.toList := by
    have := congrArg (fun x : ByteArray => x.data.toList) h
    simpa [Aq.qB] using this
  have := Aq.quote_inj _ _ ha hb h1
  exact ByteArray.ext (Array.ext' this)
theorem Aq.qB_get (a : ByteArray) (i : Nat) (h : i < (Aq.qB a).size) : (Aq.qB a)[i] ∈ Aq.quote a.data.toList := by
  have h' : i < (Aq.quote a.data.toList).length := by
    have h2 : (Aq.qB a).size = (Aq.quote a.data.toList).length := by unfold Aq.qB; show (List.toArray _).size = _; simp
    omega
  exact (List.getElem_mem h' : (Aq.quote a.data.toList)[i] ∈ Aq.quote a.data.toList)
theorem Aq.qB_letter (a : ByteArray) (i : Nat) (h : i < (Aq.qB a).size) : 32 ≤ ((Aq.qB a)[i]).toNat ∧ ((Aq.qB a)[i]).toNat ≠ 127 := Aq.quote_letters _ _ (Aq.qB_get a i h)
theorem Aq.qB_first (a : ByteArray) (h : 0 < (Aq.qB a).size) : (Aq.qB a)[0] = 34 := rfl
theorem Aq.qB_last (a : ByteArray) (h : (Aq.qB a).size - 1 < (Aq.qB a).size) : (Aq.qB a)[(Aq.qB a).size - 1] = 34 := by
  have h2 : (Aq.qB a).size = (Aq.quote a.data.toList).length := by unfold Aq.qB; show (List.toArray _).size = _; simp
  have h3 : (Aq.qB a)[(Aq.qB a).size - 1] = (Aq.quote a.data.toList)[(Aq.qB a).size - 1]'(by omega) := rfl
  rw [h3]
  have h4 : (Aq.quote a.data.toList)[(Aq.qB a).size - 1]? = some 34 := by
    rw [h2]
    unfold Aq.quote
    simp
  rw [List.getElem?_eq_getElem (by omega)] at h4
  exact Option.some.inj h4

theorem Aq.shown (w : World) (h8 : 8 ≤ w.heap.size) : Calls Tryz.prog 8 #[] w fun e w' => e = .returned (.bool true) ∧ Below w.heap.size w w' := Go.Ds.Seat.shown_calls w h8
theorem Aq.quoteC (a : ByteArray) (w : World) (h : a.size ≤ 3000) : Calls Tryz.prog 9 #[.string a] w fun e w' => e = .returned (.string (Aq.qB a)) ∧ Below w.heap.size w w' := Aq.quote_calls a w h
theorem Aq.runesC (a : ByteArray) (w : World) (h : a.size ≤ 3000) : Calls Tryz.prog 10 #[.string a] w fun e w' => (∃ v, e = .returned (.tuple #[v, .bool (Aq.okB a)])) ∧ Below w.heap.size w w' := Aq.runes_calls a w h

set_option maxHeartbeats 2000000 in
set_option maxRecDepth 1000000 in
theorem Aq.law_long (a b : ByteArray) (w : World) (h8 : 8 ≤ w.heap.size) (ha : a.size ≤ 9223372036854775807) (hb : b.size ≤ 9223372036854775807) (h : 3000 < a.size ∨ 3000 < b.size) :
    Calls Tryz.prog 3 #[.string a, .string b] w fun e w' => e = .returned (.bool true) ∧ Below w.heap.size w w' := by
  by_cases h1 : 3000 < a.size
  · clear h
    go_enter Tryz.func3, Tryz.ntmps3
    go_wp2_with (go_at_call 8; refine (Aq.shown _ h8).mono ?_; rintro e w1 ⟨rfl, hb1⟩)
    go_ret
    exact ⟨rfl, hb1⟩
  · have h2 : 3000 < b.size := by omega
    clear h
    go_enter Tryz.func3, Tryz.ntmps3
    go_wp2_with (go_at_call 8; refine (Aq.shown _ h8).mono ?_; rintro e w1 ⟨rfl, hb1⟩)
    go_ret
    exact ⟨rfl, hb1⟩

theorem Aq.toList_ne {a b : ByteArray} (h : a ≠ b) : (a.toList == b.toList) = false := by
  rw [beq_eq_false_iff_ne]
  intro e
  rw [ByteArray.toList_eq, ByteArray.toList_eq] at e
  exact h (ByteArray.ext (Array.ext' e))
def Aq.LR (n : Nat) (i : Value) : Prop := ∃ k : Nat, k ≤ n ∧ i = .int .i64 k
set_option maxHeartbeats 4000000 in
set_option maxRecDepth 1000000 in
theorem Aq.law_bad1 (a b : ByteArray) (w : World) (h8 : 8 ≤ w.heap.size) (ha : a.size ≤ 3000) (hb : b.size ≤ 3000) (hoa : Aq.okB a = false) :
    Calls Tryz.prog 3 #[.string a, .string b] w fun e w' => e = .returned (.bool true) ∧ Below w.heap.size w w' := by
  have hq := Aq.qB_size a
  have hqm := Aq.qB_max a ha
  have hf := Aq.qB_first a (by omega)
  have hla := Aq.qB_last a (by omega)
  go_enter Tryz.func3, Tryz.ntmps3
  go_wp2_with (first
    | (go_at_call 8; refine (Aq.shown _ h8).mono ?_; rintro e w1 ⟨rfl, hbel⟩)
    | (go_at_call 9; refine (Aq.quoteC _ _ (by assumption)).mono ?_; rintro e w2 ⟨rfl, hb2⟩; replace hbel := hbel.trans (hb2.mono hbel.size); clear hb2)
    | (go_at_call 10; refine (Aq.runesC _ _ (by assumption)).mono ?_; rintro e w4 ⟨⟨v4, rfl⟩, hb4⟩; replace hbel := hbel.trans (hb4.mono hbel.size); clear hb4))
  all_goals
    go_loop [12] (fun i => Aq.LR (Aq.qB a).size i) (fun i => (Aq.qB a).size - (intOf i).toNat)
    case atStart => exact ⟨0, Nat.zero_le _, rfl⟩
    case round =>
      obtain ⟨k, hk, rfl⟩ := hrel
      by_cases hlt : k < (Aq.qB a).size
      · obtain ⟨hl1, hl2⟩ := Aq.qB_letter a k hlt
        have hl3 : ((((Aq.qB a)[k]'hlt).toNat : Int) == 127) = false := by simpa using (by omega : ¬ (((Aq.qB a)[k]'hlt).toNat : Int) = 127)
        have hl4 : decide ((((Aq.qB a)[k]'hlt).toNat : Int) = 127) = false := by simpa using (by omega : ¬ (((Aq.qB a)[k]'hlt).toNat : Int) = 127)
        clear hl2
        go_wp2
        go_round
        case rel => exact ⟨k + 1, by omega, by go_num⟩
        case measure => simp [intOf]; omega
      · go_wp2
        go_ret
        exact ⟨rfl, hbel⟩
set_option maxHeartbeats 4000000 in
set_option maxRecDepth 1000000 in
theorem Aq.law_bad2 (a b : ByteArray) (w : World) (h8 : 8 ≤ w.heap.size) (ha : a.size ≤ 3000) (hb : b.size ≤ 3000) (hoa : Aq.okB a = true) (hob : Aq.okB b = false) :
    Calls Tryz.prog 3 #[.string a, .string b] w fun e w' => e = .returned (.bool true) ∧ Below w.heap.size w w' := by
  have hq := Aq.qB_size a
  have hqm := Aq.qB_max a ha
  have hf := Aq.qB_first a (by omega)
  have hla := Aq.qB_last a (by omega)
  go_enter Tryz.func3, Tryz.ntmps3
  go_wp2_with (first
    | (go_at_call 8; refine (Aq.shown _ h8).mono ?_; rintro e w1 ⟨rfl, hbel⟩)
    | (go_at_call 9; refine (Aq.quoteC _ _ (by assumption)).mono ?_; rintro e w2 ⟨rfl, hb2⟩; replace hbel := hbel.trans (hb2.mono hbel.size); clear hb2)
    | (go_at_call 10; refine (Aq.runesC _ _ (by assumption)).mono ?_; rintro e w4 ⟨⟨v4, rfl⟩, hb4⟩; replace hbel := hbel.trans (hb4.mono hbel.size); clear hb4))
  all_goals
    go_loop [12] (fun i => Aq.LR (Aq.qB a).size i) (fun i => (Aq.qB a).size - (intOf i).toNat)
    case atStart => exact ⟨0, Nat.zero_le _, rfl⟩
    case round =>
      obtain ⟨k, hk, rfl⟩ := hrel
      by_cases hlt : k < (Aq.qB a).size
      · obtain ⟨hl1, hl2⟩ := Aq.qB_letter a k hlt
        have hl3 : ((((Aq.qB a)[k]'hlt).toNat : Int) == 127) = false := by simpa using (by omega : ¬ (((Aq.qB a)[k]'hlt).toNat : Int) = 127)
        have hl4 : decide ((((Aq.qB a)[k]'hlt).toNat : Int) = 127) = false := by simpa using (by omega : ¬ (((Aq.qB a)[k]'hlt).toNat : Int) = 127)
        clear hl2
        go_wp2
        go_round
        case rel => exact ⟨k + 1, by omega, by go_num⟩
        case measure => simp [intOf]; omega
      · go_wp2
        go_ret
        exact ⟨rfl, hbel⟩
set_option maxHeartbeats 4000000 in
set_option maxRecDepth 1000000 in
theorem Aq.law_same (a : ByteArray) (w : World) (h8 : 8 ≤ w.heap.size) (ha : a.size ≤ 3000) (hoa : Aq.okB a = true) :
    Calls Tryz.prog 3 #[.string a, .string a] w fun e w' => e = .returned (.bool true) ∧ Below w.heap.size w w' := by
  have hq := Aq.qB_size a
  have hqm := Aq.qB_max a ha
  have hf := Aq.qB_first a (by omega)
  have hla := Aq.qB_last a (by omega)
  go_enter Tryz.func3, Tryz.ntmps3
  go_wp2_with (first
    | (go_at_call 8; refine (Aq.shown _ h8).mono ?_; rintro e w1 ⟨rfl, hbel⟩)
    | (go_at_call 9; refine (Aq.quoteC _ _ (by assumption)).mono ?_; rintro e w2 ⟨rfl, hb2⟩; replace hbel := hbel.trans (hb2.mono hbel.size); clear hb2)
    | (go_at_call 10; refine (Aq.runesC _ _ (by assumption)).mono ?_; rintro e w4 ⟨⟨v4, rfl⟩, hb4⟩; replace hbel := hbel.trans (hb4.mono hbel.size); clear hb4))
  all_goals
    go_loop [12] (fun i => Aq.LR (Aq.qB a).size i) (fun i => (Aq.qB a).size - (intOf i).toNat)
    case atStart => exact ⟨0, Nat.zero_le _, rfl⟩
    case round =>
      obtain ⟨k, hk, rfl⟩ := hrel
      by_cases hlt : k < (Aq.qB a).size
      · obtain ⟨hl1, hl2⟩ := Aq.qB_letter a k hlt
        have hl3 : ((((Aq.qB a)[k]'hlt).toNat : Int) == 127) = false := by simpa using (by omega : ¬ (((Aq.qB a)[k]'hlt).toNat : Int) = 127)
        have hl4 : decide ((((Aq.qB a)[k]'hlt).toNat : Int) = 127) = false := by simpa using (by omega : ¬ (((Aq.qB a)[k]'hlt).toNat : Int) = 127)
        clear hl2
        go_wp2
        go_round
        case rel => exact ⟨k + 1, by omega, by go_num⟩
        case measure => simp [intOf]; omega
      · go_wp2
        go_ret
        exact ⟨rfl, hbel⟩
set_option maxHeartbeats 4000000 in
set_option maxRecDepth 1000000 in
theorem Aq.law_diff (a b : ByteArray) (w : World) (h8 : 8 ≤ w.heap.size) (ha : a.size ≤ 3000) (hb : b.size ≤ 3000) (hoa : Aq.okB a = true) (hob : Aq.okB b = true) (hne : a ≠ b) :
    Calls Tryz.prog 3 #[.string a, .string b] w fun e w' => e = .returned (.bool true) ∧ Below w.heap.size w w' := by
  have e1 : (a.toList == b.toList) = false := Aq.toList_ne hne
  have hqn : Aq.qB a ≠ Aq.qB b := fun h => hne (Aq.qB_inj a b hoa hob h)
  have e3 : ((Aq.qB a).toList == (Aq.qB b).toList) = false := Aq.toList_ne hqn
  clear hne hqn
  have hq := Aq.qB_size a
  have hqm := Aq.qB_max a ha
  have hf := Aq.qB_first a (by omega)
  have hla := Aq.qB_last a (by omega)
  go_enter Tryz.func3, Tryz.ntmps3
  go_wp2_with (first
    | (go_at_call 8; refine (Aq.shown _ h8).mono ?_; rintro e w1 ⟨rfl, hbel⟩)
    | (go_at_call 9; refine (Aq.quoteC _ _ (by assumption)).mono ?_; rintro e w2 ⟨rfl, hb2⟩; replace hbel := hbel.trans (hb2.mono hbel.size); clear hb2)
    | (go_at_call 10; refine (Aq.runesC _ _ (by assumption)).mono ?_; rintro e w4 ⟨⟨v4, rfl⟩, hb4⟩; replace hbel := hbel.trans (hb4.mono hbel.size); clear hb4))
  all_goals
    go_loop [12] (fun i => Aq.LR (Aq.qB a).size i) (fun i => (Aq.qB a).size - (intOf i).toNat)
    case atStart => exact ⟨0, Nat.zero_le _, rfl⟩
    case round =>
      obtain ⟨k, hk, rfl⟩ := hrel
      by_cases hlt : k < (Aq.qB a).size
      · obtain ⟨hl1, hl2⟩ := Aq.qB_letter a k hlt
        have hl3 : ((((Aq.qB a)[k]'hlt).toNat : Int) == 127) = false := by simpa using (by omega : ¬ (((Aq.qB a)[k]'hlt).toNat : Int) = 127)
        have hl4 : decide ((((Aq.qB a)[k]'hlt).toNat : Int) = 127) = false := by simpa using (by omega : ¬ (((Aq.qB a)[k]'hlt).toNat : Int) = 127)
        clear hl2
        go_wp2
        go_round
        case rel => exact ⟨k + 1, by omega, by go_num⟩
        case measure => simp [intOf]; omega
      · go_wp2
        go_ret
        exact ⟨rfl, hbel⟩
/-- The law returns true, whatever the texts; what was there is as it was. -/
theorem Aq.law (a b : ByteArray) (w : World) (h8 : 8 ≤ w.heap.size) (ha : a.size ≤ 9223372036854775807) (hb : b.size ≤ 9223372036854775807) :
    Calls Tryz.prog 3 #[.string a, .string b] w fun e w' => e = .returned (.bool true) ∧ Below w.heap.size w w' := by
  by_cases hl : 3000 < a.size ∨ 3000 < b.size
  · exact Aq.law_long a b w h8 ha hb hl
  · have ha2 : a.size ≤ 3000 := by omega
    have hb2 : b.size ≤ 3000 := by omega
    cases hoa : Aq.okB a with
    | false => exact Aq.law_bad1 a b w h8 ha2 hb2 hoa
    | true =>
      cases hob : Aq.okB b with
      | false => exact Aq.law_bad2 a b w h8 ha2 hb2 hoa hob
      | true =>
        by_cases hab : a = b
        · subst hab
          exact Aq.law_same a w h8 ha2 hoa
        · exact Aq.law_diff a b w h8 ha2 hb2 hoa hob hab
end Go.Proofs
