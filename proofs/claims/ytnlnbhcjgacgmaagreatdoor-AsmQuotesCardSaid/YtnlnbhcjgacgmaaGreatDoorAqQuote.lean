/- asm.Quote: what it gives at every text of at most 3000 bytes. -/
import Derived.Test.YtnlnbhcjgacgmaaGreatDoorAqBuilder
import Derived.Test.YtnlnbhcjgacgmaaGreatDoorAqPure
set_option linter.unusedVariables false
set_option linter.unusedSimpArgs false
namespace Go.Proofs
open Go.RowKit

theorem Aq.body_end (f : Nat) (l : List UInt8) (h : l = []) : Aq.body f l = [] := by
  subst h; cases f <;> simp [Aq.body]
theorem Aq.body_step (f : Nat) (s : ByteArray) (pos : Nat) (h : pos < s.size) : Aq.body (f + 1) (s.data.toList.drop pos) = Aq.esc (Utf8.decode s pos).1 ++ Aq.body f (s.data.toList.drop (pos + (Utf8.decode s pos).2)) := by
  have hne : s.data.toList.drop pos ≠ [] := by
    intro e
    have := congrArg List.length e
    simp at this
    have h2 : s.size = s.data.size := rfl
    omega
  simp only [Aq.body, if_neg hne, Lib.decodeL_drop, List.drop_drop]

theorem Aq.len2 (n : Nat) (a b : UInt8) (h : n ≤ 100000) : n + (⟨#[a, b]⟩ : ByteArray).size ≤ 140737488355328 := by show n + 2 ≤ _; omega
theorem Aq.len3 (x : List Value) (a b : UInt8) : x.length ≤ 100000 → (x ++ Lib.strCells ⟨#[a, b]⟩).length + 1 ≤ 140737488355328 := by
  intro h; have h2 : (⟨#[a, b]⟩ : ByteArray).size = 2 := rfl; simp [Lib.strCells_length]; omega
theorem Aq.len4 (x : List Value) (u : Value) (a b : UInt8) : x.length ≤ 100000 → ((x ++ Lib.strCells ⟨#[a, b]⟩) ++ [u]).length + 1 ≤ 140737488355328 := by
  intro h; have h2 : (⟨#[a, b]⟩ : ByteArray).size = 2 := rfl; simp [Lib.strCells_length]; omega
theorem Aq.len5 (x : List Value) (u : Value) : x.length ≤ 100000 → (x ++ [u]).length + 4 ≤ 140737488355328 := by
  intro h; simp; omega
theorem Aq.hex_get (n : Nat) (h : n < (⟨#[48, 49, 50, 51, 52, 53, 54, 55, 56, 57, 97, 98, 99, 100, 101, 102]⟩ : ByteArray).size) : (⟨#[48, 49, 50, 51, 52, 53, 54, 55, 56, 57, 97, 98, 99, 100, 101, 102]⟩ : ByteArray)[n] = Aq.hexd n := by
  have h' : n < Aq.hexL.length := h
  unfold Aq.hexd
  rw [List.getD_eq_getElem?_getD, List.getElem?_eq_getElem h', Option.getD_some]
  rfl
theorem Aq.esc_two (r : Nat) (h : r = 34 ∨ r = 92) : Aq.esc r = [92] ++ Lib.encodeRune (r : Int) := by unfold Aq.esc; rw [if_pos h]
theorem Aq.esc_hex (r : Nat) (h34 : ¬ r = 34) (h92 : ¬ r = 92) (h10 : ¬ r = 10) (h : r < 32 ∨ r = 127) : Aq.esc r = [92, 120] ++ [Aq.hexd (r / 16)] ++ [Aq.hexd (r % 16)] := by
  unfold Aq.esc; rw [if_neg (by omega), if_neg h10, if_pos h]
theorem Aq.esc_plain (r : Nat) (h34 : ¬ r = 34) (h92 : ¬ r = 92) (h10 : ¬ r = 10) (h32 : ¬ r < 32) (h127 : ¬ r = 127) : Aq.esc r = Lib.encodeRune (r : Int) := by
  unfold Aq.esc; rw [if_neg (by omega), if_neg h10, if_neg (by omega)]
theorem Aq.esc_le (r : Nat) : (Aq.esc r).length ≤ 4 := by
  have h4 := Lib.runeCells_le (r : Int)
  rw [Lib.runeCells_length] at h4
  unfold Aq.esc
  split
  · rename_i h
    rcases h with rfl | rfl <;> decide
  · split
    · decide
    · split
      · simp
      · exact h4.2
theorem Aq.width_end (s : ByteArray) (pos : Nat) (h : pos < s.size) : pos + (Utf8.decode s pos).2 ≤ s.size := by
  have h2 : s.size = s.data.toList.length := by rw [Array.length_toList]; rfl
  have hne : s.data.toList.drop pos ≠ [] := by
    intro e
    have := congrArg List.length e
    rw [List.length_drop] at this
    simp only [List.length_nil] at this
    omega
  have := Lib.decodeL_le _ hne
  rw [Lib.decodeL_drop, List.length_drop] at this
  omega
set_option maxRecDepth 100000 in
theorem Aq.and15 (r : Nat) (h : r < 128) : bits .and .i32 (r : Int) 15 = ((r % 16 : Nat) : Int) := by
  have : ∀ x : Fin 128, bits .and .i32 (x.val : Int) 15 = ((x.val % 16 : Nat) : Int) := by decide
  exact this ⟨r, h⟩
theorem Aq.and127 : bits .and .i32 127 15 = 15 := by decide
/-- What is carried round Quote's loop. -/
def Aq.QRel (s : ByteArray) (w : World) (K : Nat) (wr : World) : Prop :=
  ∃ (pos fuel : Nat) (acc : List UInt8), Lib.IsBuilderF 53 5 w.heap.size w.heap.size (Lib.byteCells acc) wr ∧ wr.heap[K]? = some (.stringIter s pos) ∧ Below w.heap.size w wr ∧
    acc ++ Aq.body fuel (s.data.toList.drop pos) = [34] ++ Aq.body s.data.toList.length s.data.toList ∧ s.size ≤ pos + fuel ∧ acc.length ≤ 1 + 4 * pos ∧ pos ≤ s.size

set_option maxHeartbeats 4000000 in
set_option maxRecDepth 1000000 in
theorem Aq.quote_calls (s : ByteArray) (w : World) (hs : s.size ≤ 3000) :
    Calls Tryz.prog 9 #[.string s] w fun e w' => e = .returned (.string ⟨(Aq.quote s.data.toList).toArray⟩) ∧ Below w.heap.size w w' := by
  go_enter Tryz.func9, Tryz.ntmps9
  go_wp2_with (go_at_call 19; refine (Aq.writeByte w.heap.size w.heap.size [] 34 _ (Lib.IsBuilderF.of (Lib.fresh_isBuilder 53 5 w)) (by simp) (by simp)).mono ?_)
  rintro e W1 ⟨rfl, h1, b1, k1⟩
  have hz1 := b1.size
  simp only [World.size_alloc] at hz1
  go_wp2
  go_loopw [] (fun wr => Aq.QRel s w W1.heap.size wr) (fun wr => s.size - wr.iterPos W1.heap.size)
  case atStart =>
    refine ⟨0, s.data.toList.length, [34], ?_, ?_, ?_, rfl, ?_, by simp, Nat.zero_le _⟩
    · exact Lib.IsBuilderF.alloc (T := 53) (e := 5) (Or.inr h1) _
    · have := World.iter_heap W1 s 0
      simpa using this
    · exact (((Below.refl _ w).alloc (Nat.le_refl _) _).trans b1).alloc (by omega) _
    · show s.data.size ≤ 0 + s.data.toList.length
      simp
  case round =>
    obtain ⟨pos, fuel, acc, hI, hit, hbw, hacc, hfu, hal, hps⟩ := hrel
    have hlb : (Lib.byteCells acc).length ≤ 100000 := by rw [Lib.byteCells_length]; omega
    have hsz : W1.heap.size < wr.heap.size := (Array.getElem?_eq_some_iff.1 hit).1
    by_cases hp : pos < s.size
    · have hnx : ∀ ty, (Instr.next (.pointer (some ⟨W1.heap.size, 0, none⟩)) true ty).run Tryz.prog wr = _ := fun ty => Lib.run_next_any_at wr W1.heap.size s pos ty hit hp
      have hwd := Lib.width_pos s pos
      have hwe := Aq.width_end s pos hp
      have hd1 := decode_le s pos
      have hI2 := hI.iterAt hit (pos + (Utf8.decode s pos).2)
      have hit2 := Lib.iterAt_heap wr W1.heap.size s pos (pos + (Utf8.decode s pos).2) hit
      have hbw2 := Lib.below_iterAt hbw (k := W1.heap.size) (by omega) s (pos + (Utf8.decode s pos).2)
      have hsz2 : w.heap.size ≤ (wr.iterAt W1.heap.size s (pos + (Utf8.decode s pos).2)).heap.size := by rw [Lib.iterAt_size]; omega
      obtain ⟨f, rfl⟩ : ∃ f, fuel = f + 1 := ⟨fuel - 1, by omega⟩
      rw [Aq.body_step f s pos hp] at hacc
      by_cases h34 : (Utf8.decode s pos).1 = 34
      · go_wp2_with (go_at_call 19; refine (Aq.writeByte w.heap.size w.heap.size _ 92 _ hI2 (by omega) hsz2).mono ?_)
        rintro e Wa ⟨rfl, h1, b1, k1⟩
        have hz2 := b1.size
        go_wp2_with (go_at_call 20; refine (Aq.writeRune w.heap.size w.heap.size _ _ (by omega) (by omega) _ (Or.inr h1) (Aq.len5 _ _ hlb) (by omega)).mono ?_)
        rintro e Wb ⟨⟨v, rfl⟩, h2, b2, k2⟩
        go_wp2
        go_roundw
        case rel =>
          refine ⟨pos + (Utf8.decode s pos).2, f, acc ++ Aq.esc (Utf8.decode s pos).1, ?_, k2.iter (k1.iter hit2 (by omega)) (by omega), (hbw2.trans b1).trans b2, ?_, by omega, ?_, hwe⟩
          · rw [Aq.esc_two _ (.inl h34), ← List.append_assoc, Lib.byteCells_append, Lib.byteCells_append, Lib.byteCells_encodeRune, h34]
            exact Or.inr h2
          · rw [← hacc, List.append_assoc]
          · have := Aq.esc_le (Utf8.decode s pos).1; simp; omega
        case measure =>
          simp only [World.iterPos, k2.iter (k1.iter hit2 (by omega)) (by omega), hit]
          omega
      · by_cases h92 : (Utf8.decode s pos).1 = 92
        · go_wp2_with (go_at_call 19; refine (Aq.writeByte w.heap.size w.heap.size _ 92 _ hI2 (by omega) hsz2).mono ?_)
          rintro e Wa ⟨rfl, h1, b1, k1⟩
          have hz2 := b1.size
          go_wp2_with (go_at_call 20; refine (Aq.writeRune w.heap.size w.heap.size _ _ (by omega) (by omega) _ (Or.inr h1) (Aq.len5 _ _ hlb) (by omega)).mono ?_)
          rintro e Wb ⟨⟨v, rfl⟩, h2, b2, k2⟩
          go_wp2
          go_roundw
          case rel =>
            refine ⟨pos + (Utf8.decode s pos).2, f, acc ++ Aq.esc (Utf8.decode s pos).1, ?_, k2.iter (k1.iter hit2 (by omega)) (by omega), (hbw2.trans b1).trans b2, ?_, by omega, ?_, hwe⟩
            · rw [Aq.esc_two _ (.inr h92), ← List.append_assoc, Lib.byteCells_append, Lib.byteCells_append, Lib.byteCells_encodeRune, h92]
              exact Or.inr h2
            · rw [← hacc, List.append_assoc]
            · have := Aq.esc_le (Utf8.decode s pos).1; simp; omega
          case measure =>
            simp only [World.iterPos, k2.iter (k1.iter hit2 (by omega)) (by omega), hit]
            omega
        · by_cases h10 : (Utf8.decode s pos).1 = 10
          · go_wp2_with (go_at_call 21; refine (Aq.writeString w.heap.size w.heap.size _ ⟨#[92, 110]⟩ _ hI2 (Aq.len2 _ _ _ hlb) hsz2).mono ?_)
            rintro e Wa ⟨rfl, h1, b1, k1⟩
            go_wp2
            go_roundw
            case rel =>
              refine ⟨pos + (Utf8.decode s pos).2, f, acc ++ Aq.esc (Utf8.decode s pos).1, ?_, k1.iter hit2 (by omega), hbw2.trans b1, ?_, by omega, ?_, hwe⟩
              · rw [h10, Lib.byteCells_append]
                exact Or.inr h1
              · rw [← hacc, List.append_assoc]
              · have := Aq.esc_le (Utf8.decode s pos).1; simp; omega
            case measure =>
              simp only [World.iterPos, k1.iter hit2 (by omega), hit]
              omega
          · by_cases h32 : (Utf8.decode s pos).1 < 32
            · have hand := Aq.and15 (Utf8.decode s pos).1 (by omega)
              go_wp2_with (go_at_call 21; refine (Aq.writeString w.heap.size w.heap.size _ ⟨#[92, 120]⟩ _ hI2 (Aq.len2 _ _ _ hlb) hsz2).mono ?_)
              rintro e Wa ⟨rfl, h1, b1, k1⟩
              have hz2 := b1.size
              go_wp2_with (go_at_call 19; refine (Aq.writeByte w.heap.size w.heap.size _ _ _ (Or.inr h1) (Aq.len3 _ _ _ hlb) (by omega)).mono ?_)
              rintro e Wb ⟨rfl, h2, b2, k2⟩
              have hz3 := b2.size
              go_wp2_with (go_at_call 19; refine (Aq.writeByte w.heap.size w.heap.size _ _ _ (Or.inr h2) (Aq.len4 _ _ _ _ hlb) (by omega)).mono ?_)
              rintro e Wc ⟨rfl, h3, b3, k3⟩
              go_wp2
              go_roundw
              case rel =>
                simp only [Aq.hex_get] at h3
                refine ⟨pos + (Utf8.decode s pos).2, f, acc ++ Aq.esc (Utf8.decode s pos).1, ?_, k3.iter (k2.iter (k1.iter hit2 (by omega)) (by omega)) (by omega), ((hbw2.trans b1).trans b2).trans b3, ?_, by omega, ?_, hwe⟩
                · rw [Aq.esc_hex _ h34 h92 h10 (.inl h32)]
                  exact Or.inr (by simpa [Lib.byteCells, Lib.strCells] using h3)
                · rw [← hacc, List.append_assoc]
                · rw [Aq.esc_hex _ h34 h92 h10 (.inl h32)]; simp; omega
              case measure =>
                simp only [World.iterPos, k3.iter (k2.iter (k1.iter hit2 (by omega)) (by omega)) (by omega), hit]
                omega
            · by_cases h127 : (Utf8.decode s pos).1 = 127
              · have hand := Aq.and127
                go_wp2_with (go_at_call 21; refine (Aq.writeString w.heap.size w.heap.size _ ⟨#[92, 120]⟩ _ hI2 (Aq.len2 _ _ _ hlb) hsz2).mono ?_)
                rintro e Wa ⟨rfl, h1, b1, k1⟩
                have hz2 := b1.size
                go_wp2_with (go_at_call 19; refine (Aq.writeByte w.heap.size w.heap.size _ _ _ (Or.inr h1) (Aq.len3 _ _ _ hlb) (by omega)).mono ?_)
                rintro e Wb ⟨rfl, h2, b2, k2⟩
                have hz3 := b2.size
                go_wp2_with (go_at_call 19; refine (Aq.writeByte w.heap.size w.heap.size _ _ _ (Or.inr h2) (Aq.len4 _ _ _ _ hlb) (by omega)).mono ?_)
                rintro e Wc ⟨rfl, h3, b3, k3⟩
                go_wp2
                go_roundw
                case rel =>
                  simp only [Aq.hex_get] at h3
                  refine ⟨pos + (Utf8.decode s pos).2, f, acc ++ Aq.esc (Utf8.decode s pos).1, ?_, k3.iter (k2.iter (k1.iter hit2 (by omega)) (by omega)) (by omega), ((hbw2.trans b1).trans b2).trans b3, ?_, by omega, ?_, hwe⟩
                  · rw [Aq.esc_hex _ h34 h92 h10 (.inr h127), h127]
                    exact Or.inr (by simpa [Lib.byteCells, Lib.strCells] using h3)
                  · rw [← hacc, List.append_assoc]
                  · rw [Aq.esc_hex _ h34 h92 h10 (.inr h127)]; simp; omega
                case measure =>
                  simp only [World.iterPos, k3.iter (k2.iter (k1.iter hit2 (by omega)) (by omega)) (by omega), hit]
                  omega
              · go_wp2_with (go_at_call 20; refine (Aq.writeRune w.heap.size w.heap.size _ _ (by omega) (by omega) _ hI2 (by omega) hsz2).mono ?_)
                rintro e Wa ⟨⟨v, rfl⟩, h1, b1, k1⟩
                go_wp2
                go_roundw
                case rel =>
                  refine ⟨pos + (Utf8.decode s pos).2, f, acc ++ Aq.esc (Utf8.decode s pos).1, ?_, k1.iter hit2 (by omega), hbw2.trans b1, ?_, by omega, ?_, hwe⟩
                  · rw [Aq.esc_plain _ h34 h92 h10 h32 h127, Lib.byteCells_append, Lib.byteCells_encodeRune]
                    exact Or.inr h1
                  · rw [← hacc, List.append_assoc]
                  · have := Aq.esc_le (Utf8.decode s pos).1; simp; omega
                case measure =>
                  simp only [World.iterPos, k1.iter hit2 (by omega), hit]
                  omega
    · have hnx : ∀ ty, (Instr.next (.pointer (some ⟨W1.heap.size, 0, none⟩)) true ty).run Tryz.prog wr = _ := fun ty => Lib.run_next_end_at wr W1.heap.size s pos ty hit hp
      have hsz2 : w.heap.size ≤ wr.heap.size := by omega
      go_wp2_with (go_at_call 19; refine (Aq.writeByte w.heap.size w.heap.size _ 34 _ hI (by omega) hsz2).mono ?_)
      rintro e Wa ⟨rfl, h1, b1, k1⟩
      have hz2 := b1.size
      go_wp2_with (go_at_call 22; refine (Tryz.Builder_String_any_k w.heap.size w.heap.size (acc ++ [34]) _ (by rw [Lib.byteCells_append]; exact Or.inr h1) (by omega)).mono ?_)
      rintro e Wb ⟨rfl, _, b2, _⟩
      go_wp2
      go_ret
      rw [Aq.body_end fuel _ (by rw [List.drop_eq_nil_iff]; show s.data.size ≤ pos; have : s.size = s.data.size := rfl; omega), List.append_nil] at hacc
      subst hacc
      exact ⟨rfl, (hbw.trans b1).trans b2⟩
end Go.Proofs
