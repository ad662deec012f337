/- crucibleref1.Runes: whether a text is one. -/
import Derived.Test.YtnlnbhcjgacgmaaGreatDoorAqNextAll
import Derived.Laws.AppendOwn
import Derived.WalkSpells
set_option linter.unusedVariables false
set_option linter.unusedSimpArgs false
namespace Go.Proofs
open Go.RowKit

theorem Aq.info3 : (Tryz.prog.info? 3).map (fun i => (i.zero, i.size, i.bytes)) = some (some (.int .i64 0), 1, 8) := by kernel_rfl
theorem Aq.ok_end (f : Nat) (l : List UInt8) (h : l = []) : Aq.okL f l = true := by subst h; cases f <;> simp [Aq.okL]
theorem Aq.ok_step (f : Nat) (l : List UInt8) (h : l ≠ []) : Aq.okL (f + 1) l = (if (Aq.nextL l).2 = 0 then false else Aq.okL f (l.drop (Aq.nextL l).2)) := by simp [Aq.okL, h]

def Aq.strSize : Value → Nat | .string x => x.size | _ => 0
theorem Aq.ext_zero (s : ByteArray) : s.extract 0 s.size = s := by simp
/-- What is carried round Runes' loop: the rest of the text, what has been gathered, whether all was read. -/
def Aq.RR (s : ByteArray) (B : Nat) (w : World) (s0 out ok : Value) (wr : World) : Prop :=
  ∃ (p : Nat) (f n : Nat) (xs : List Value) (b : Bool), p ≤ s.size ∧ s0 = .string (s.extract p s.size) ∧ wr.ownsRow B 3 1 out n xs ∧ n ≤ p ∧ ok = .bool b ∧
    (b && Aq.okL f (s.data.toList.drop p)) = Aq.okL s.data.toList.length s.data.toList ∧ s.size ≤ p + f ∧ Below B w wr ∧ B ≤ wr.heap.size
theorem Aq.ext_size (s : ByteArray) (p : Nat) (h : p ≤ s.size) : (s.extract p s.size).size = s.size - p := by simp
theorem Aq.ext_list (s : ByteArray) (p : Nat) : (s.extract p s.size).data.toList = s.data.toList.drop p := by
  rw [ByteArray.data_extract, Array.toList_extract]
  have : s.size = s.data.toList.length := by rw [Array.length_toList]; rfl
  rw [this, List.extract_eq_take_drop, List.take_of_length_le (by rw [List.length_drop]; omega)]
theorem Aq.ext_ext (s : ByteArray) (p k : Nat) : (s.extract p s.size).extract k (s.extract p s.size).size = s.extract (p + k) s.size := by
  apply ByteArray.ext
  apply Array.ext'
  rw [Aq.ext_list, Aq.ext_list, Aq.ext_list, List.drop_drop]
theorem Aq.next_le (l : List UInt8) (hne : l ≠ []) (h : (Aq.nextL l).2 ≠ 0) : 1 ≤ (Aq.nextL l).2 ∧ (Aq.nextL l).2 ≤ l.length := by
  obtain ⟨e, -⟩ := Aq.next_decode l hne h
  rw [← e]
  exact ⟨Lib.decodeL_width l, Lib.decodeL_le l hne⟩
set_option maxHeartbeats 4000000 in
set_option maxRecDepth 1000000 in
theorem Aq.runes_calls (s : ByteArray) (w : World) (hs : s.size ≤ 3000) :
    Calls Tryz.prog 10 #[.string s] w fun e w' => (∃ v, e = .returned (.tuple #[v, .bool (Aq.okL s.data.toList.length s.data.toList)])) ∧ Below w.heap.size w w' := by
  obtain ⟨i0, hi, hz0, hz1, hz2⟩ := info_parts Aq.info3
  go_enter Tryz.func10, Tryz.ntmps10
  go_wp2
  go_loopw [0, 4, 5] (fun s0 out ok wr => Aq.RR s w.heap.size w s0 out ok wr) (fun s0 _ _ _ => Aq.strSize s0)
  case atStart =>
    refine ⟨0, s.data.toList.length, 0, [], true, Nat.zero_le _, ?_, World.ownsRow_nil _ _ _ _, Nat.le_refl _, rfl, by simp, ?_, Below.refl _ _, Nat.le_refl _⟩
    · rw [Aq.ext_zero]
    · rw [Array.length_toList]; show s.data.size ≤ 0 + s.data.size; omega
  case round =>
    obtain ⟨p, f, n, xs, b, hp, rfl, hown, hnp, rfl, hok, hf, hb, hB⟩ := hrel
    have hrs := Aq.ext_size s p hp
    have hrl := Aq.ext_list s p
    have hre := Aq.ext_ext s p
    generalize s.extract p s.size = r at hrs hrl hre
    by_cases hlt : p < s.size
    · have h0 : 0 < r.size := by omega
      have hne : r.data.toList ≠ [] := by
        intro e
        have := congrArg List.length e
        rw [Array.length_toList] at this
        have h2 : r.size = r.data.size := rfl
        simp only [List.length_nil] at this
        omega
      obtain ⟨f, rfl⟩ : ∃ g, f = g + 1 := ⟨f - 1, by omega⟩
      rw [← hrl, Aq.ok_step f _ hne] at hok
      have hcall : ∀ w, Calls Tryz.prog 23 #[.string r] w fun e w' => e = .returned (.tuple #[.int .i64 ((Aq.nextL r.data.toList).1 : Nat), .int .i64 ((Aq.nextL r.data.toList).2 : Nat)]) ∧ w = w' := fun w => (Aq.next_calls r w h0 (by omega)).mono fun e w' ⟨he, hw⟩ => ⟨he, hw.symm⟩
      have hle := Aq.next_le r.data.toList hne
      generalize Aq.nextL r.data.toList = ck at hok hcall hle
      obtain ⟨c, k⟩ := ck
      simp only at hok hcall hle
      by_cases hz : k = 0
      · subst hz
        rw [if_pos rfl, Bool.and_false] at hok
        have HOK : Hid (false = Aq.okL s.data.toList.length s.data.toList) := hok
        clear hok hle
        go_wp2_with (first
          | (go_at_call 23; refine (hcall _).mono ?_; rintro e W1 ⟨rfl, rfl⟩)
          | (at_builtin; refine wpList_append_own _ rfl _ _ 24 rfl w.heap.size 3 i0 (.int .i64 0) 1 8 Tryz.underlying24 hi hz0 hz1 hz2 rfl (by decide) _ _ _ rfl (hown.alloc _) ⟨wr.heap.size, 0, none⟩ 1 1 [.int .i64 65533] rfl rfl ?c1 ?c2 ?c3 ?c4 ?c5 ?_))
        case c1 =>
          intro j u hj
          match j, hj with
          | 0, hj => simp at hj; subst hj; simp [Addr.add]
        case c2 => intro u hu; simp at hu; subst hu; rfl
        case c3 => unfold maxLen; omega
        case c4 => omega
        case c5 => simp; omega
        intro v' w1 hown' hgrow _
        go_wp2
        go_roundw
        case rel =>
          have hbw := (hb.alloc hB _).grown hgrow (by simp; omega) (fun k hk => (hown.lt k hk).1)
          exact ⟨p + 1, f, n + 1, _, false, by omega, by rw [← hre 1, hrs], hown', by omega, rfl, by rw [Bool.false_and]; exact HOK.out, by omega, hbw, hbw.size⟩
        case measure => simp [Aq.strSize]; omega
      · have hk := hle hz
        rw [if_neg hz] at hok
        have hk1 : 1 ≤ k := hk.1
        have hk2 : k ≤ r.size := by have := hk.2; rw [Array.length_toList] at this; exact this
        have d1 : ((k : Int) == 0) = false := by simpa using hz
        have d2 : decide ((k : Int) = 0) = false := by simpa using hz
        have HOK : Hid ((b && Aq.okL f (List.drop k r.data.toList)) = Aq.okL s.data.toList.length s.data.toList) := hok
        clear hok hle hk
        go_wp2_with (first
          | (go_at_call 23; refine (hcall _).mono ?_; rintro e W1 ⟨rfl, rfl⟩)
          | (at_builtin; refine wpList_append_own _ rfl _ _ 24 rfl w.heap.size 3 i0 (.int .i64 0) 1 8 Tryz.underlying24 hi hz0 hz1 hz2 rfl (by decide) _ _ _ rfl (hown.alloc _) ⟨wr.heap.size, 0, none⟩ 1 1 [.int .i64 c] rfl rfl ?c1 ?c2 ?c3 ?c4 ?c5 ?_))
        case c1 =>
          intro j u hj
          match j, hj with
          | 0, hj => simp at hj; subst hj; simp [Addr.add]
        case c2 => intro u hu; simp at hu; subst hu; rfl
        case c3 => unfold maxLen; omega
        case c4 => omega
        case c5 => simp; omega
        intro v' w1 hown' hgrow _
        go_wp2
        go_roundw
        case rel =>
          have hbw := (hb.alloc hB _).grown hgrow (by simp; omega) (fun k hk => (hown.lt k hk).1)
          refine ⟨p + k, f, n + 1, _, b, by omega, by rw [← hre k, hrs], hown', by omega, rfl, ?_, by omega, hbw, hbw.size⟩
          have := HOK.out
          rwa [hrl, List.drop_drop] at this
        case measure => simp [Aq.strSize]; omega
    · have hbv : b = Aq.okL s.data.toList.length s.data.toList := by
        rw [← hok, Aq.ok_end f _ (by rw [List.drop_eq_nil_iff, Array.length_toList]; have h2 : s.size = s.data.size := rfl; omega), Bool.and_true]
      clear hok
      subst hbv
      go_wp2
      go_ret2
      exact ⟨⟨_, rfl⟩, hb⟩
end Go.Proofs
