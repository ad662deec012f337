/- crucibleref1.next at every text. -/
import Derived.Test.YtnlnbhcjgacgmaaGreatDoorAqNext3
import Derived.Test.YtnlnbhcjgacgmaaGreatDoorAqNext4
set_option linter.unusedVariables false
set_option linter.unusedSimpArgs false
namespace Go.Proofs
open Go.RowKit

theorem Aq.ret_eq {r n r' n' : Int} (h1 : r = r') (h2 : n = n') : Aq.ret r n = Aq.ret r' n' := by rw [h1, h2]
theorem Aq.contB_no {x : Nat} (h : ¬ (128 ≤ x ∧ x < 192)) : ¬ Aq.contB x = true := by rw [Aq.contB_spec]; exact h
/-- What next gives, in the plain law's words. -/
def Aq.NX (s : ByteArray) (w : World) (e : Ending) (w' : World) : Prop := e = Aq.ret ((Aq.nextL s.data.toList).1 : Nat) ((Aq.nextL s.data.toList).2 : Nat) ∧ w' = w
theorem Aq.NX_of {s : ByteArray} {w : World} {r n : Nat} (hN : Aq.nextL s.data.toList = (r, n)) {e : Ending} {w' : World} {r' n' : Int} (he : e = Aq.ret r' n') (hr : r' = r) (hn : n' = n) (hw : w' = w) : Aq.NX s w e w' := by
  refine ⟨?_, hw⟩
  rw [he, hN, hr, hn]
theorem Aq.next_calls (s : ByteArray) (w : World) (h0 : 0 < s.size) (hs : s.size ≤ 3000) : Calls Tryz.prog 23 #[.string s] w (Aq.NX s w) := by
  have hl : s.data.toList.length = s.size := by rw [Array.length_toList]; rfl
  have e0 := Aq.getD_at s 0 h0
  by_cases c0 : (s[0]'h0).toNat < 128
  · have hN : Aq.nextL s.data.toList = ((s[0]'h0).toNat, 1) := by unfold Aq.nextL; simp only [e0]; rw [if_pos c0]
    exact (Aq.next_ascii s w h0 hs c0).mono fun e w' ⟨he, hw⟩ => Aq.NX_of hN he rfl rfl hw
  · by_cases c1 : 194 ≤ (s[0]'h0).toNat ∧ (s[0]'h0).toNat < 224
    · by_cases l2 : s.size < 2
      · have hN : Aq.nextL s.data.toList = (0, 0) := by unfold Aq.nextL; simp only [e0]; rw [if_neg c0, if_pos c1, if_neg (by omega)]
        exact (Aq.next_short s w h0 hs (.inl ⟨c1.1, c1.2, l2⟩)).mono fun e w' ⟨he, hw⟩ => Aq.NX_of hN he rfl rfl hw
      · have h1 : 1 < s.size := by omega
        have e1 := Aq.getD_at s 1 h1
        by_cases g1 : 128 ≤ (s[1]'h1).toNat ∧ (s[1]'h1).toNat < 192
        · have hN : Aq.nextL s.data.toList = (((s[0]'h0).toNat - 192) * 64 + ((s[1]'h1).toNat - 128), 2) := by
            unfold Aq.nextL; simp only [e0, e1]; rw [if_neg c0, if_pos c1, if_pos ⟨by omega, Aq.contB_spec.2 g1⟩]
          exact (Aq.next_two s w h0 h1 hs c1.1 c1.2).mono fun e w' ⟨he, hw⟩ => by rw [if_pos g1] at he; exact Aq.NX_of hN he (by omega) rfl hw
        · have hN : Aq.nextL s.data.toList = (0, 0) := by
            unfold Aq.nextL; simp only [e0, e1]; rw [if_neg c0, if_pos c1, if_neg (fun h => Aq.contB_no g1 h.2)]
          exact (Aq.next_two s w h0 h1 hs c1.1 c1.2).mono fun e w' ⟨he, hw⟩ => by rw [if_neg g1] at he; exact Aq.NX_of hN he rfl rfl hw
    · by_cases c2 : 224 ≤ (s[0]'h0).toNat ∧ (s[0]'h0).toNat < 240
      · by_cases l3 : s.size < 3
        · have hN : Aq.nextL s.data.toList = (0, 0) := by unfold Aq.nextL; simp only [e0]; rw [if_neg c0, if_neg c1, if_pos c2, if_neg (by omega)]
          exact (Aq.next_short s w h0 hs (.inr (.inl ⟨c2.1, c2.2, l3⟩))).mono fun e w' ⟨he, hw⟩ => Aq.NX_of hN he rfl rfl hw
        · have h1 : 1 < s.size := by omega
          have h2 : 2 < s.size := by omega
          have e1 := Aq.getD_at s 1 h1
          have e2 := Aq.getD_at s 2 h2
          by_cases g1 : 128 ≤ (s[1]'h1).toNat ∧ (s[1]'h1).toNat < 192
          · by_cases g2 : 128 ≤ (s[2]'h2).toNat ∧ (s[2]'h2).toNat < 192
            · by_cases v1 : (((s[0]'h0).toNat - 224 : Int) * 64 + (s[1]'h1).toNat - 128) * 64 + (s[2]'h2).toNat - 128 < 2048
              · have hN : Aq.nextL s.data.toList = (0, 0) := by
                  unfold Aq.nextL; simp only [e0, e1, e2]; rw [if_neg c0, if_neg c1, if_pos c2, if_neg (by rintro ⟨-, -, -, h, -⟩; omega)]
                exact (Aq.next_3_low s w h0 h1 h2 hs c2.1 c2.2 g1 g2 v1).mono fun e w' ⟨he, hw⟩ => Aq.NX_of hN he rfl rfl hw
              · by_cases v2 : (((s[0]'h0).toNat - 224 : Int) * 64 + (s[1]'h1).toNat - 128) * 64 + (s[2]'h2).toNat - 128 < 55296
                · have hN : Aq.nextL s.data.toList = ((((s[0]'h0).toNat - 224) * 64 + ((s[1]'h1).toNat - 128)) * 64 + ((s[2]'h2).toNat - 128), 3) := by
                    unfold Aq.nextL; simp only [e0, e1, e2]; rw [if_neg c0, if_neg c1, if_pos c2, if_pos ⟨by omega, Aq.contB_spec.2 g1, Aq.contB_spec.2 g2, by omega, by omega⟩]
                  exact (Aq.next_3_ok1 s w h0 h1 h2 hs c2.1 c2.2 g1 g2 (by omega) v2).mono fun e w' ⟨he, hw⟩ => Aq.NX_of hN he (by omega) rfl hw
                · by_cases v3 : (((s[0]'h0).toNat - 224 : Int) * 64 + (s[1]'h1).toNat - 128) * 64 + (s[2]'h2).toNat - 128 < 57344
                  · have hN : Aq.nextL s.data.toList = (0, 0) := by
                      unfold Aq.nextL; simp only [e0, e1, e2]; rw [if_neg c0, if_neg c1, if_pos c2, if_neg (by rintro ⟨-, -, -, -, h⟩; omega)]
                    exact (Aq.next_3_sur s w h0 h1 h2 hs c2.1 c2.2 g1 g2 (by omega) v3).mono fun e w' ⟨he, hw⟩ => Aq.NX_of hN he rfl rfl hw
                  · have hN : Aq.nextL s.data.toList = ((((s[0]'h0).toNat - 224) * 64 + ((s[1]'h1).toNat - 128)) * 64 + ((s[2]'h2).toNat - 128), 3) := by
                      unfold Aq.nextL; simp only [e0, e1, e2]; rw [if_neg c0, if_neg c1, if_pos c2, if_pos ⟨by omega, Aq.contB_spec.2 g1, Aq.contB_spec.2 g2, by omega, by omega⟩]
                    exact (Aq.next_3_ok2 s w h0 h1 h2 hs c2.1 c2.2 g1 g2 (by omega)).mono fun e w' ⟨he, hw⟩ => Aq.NX_of hN he (by omega) rfl hw
            · have hN : Aq.nextL s.data.toList = (0, 0) := by
                unfold Aq.nextL; simp only [e0, e1, e2]; rw [if_neg c0, if_neg c1, if_pos c2, if_neg (fun h => Aq.contB_no g2 h.2.2.1)]
              exact (Aq.next_3_bad2 s w h0 h1 h2 hs c2.1 c2.2 g1 (by omega)).mono fun e w' ⟨he, hw⟩ => Aq.NX_of hN he rfl rfl hw
          · have hN : Aq.nextL s.data.toList = (0, 0) := by
              unfold Aq.nextL; simp only [e0, e1, e2]; rw [if_neg c0, if_neg c1, if_pos c2, if_neg (fun h => Aq.contB_no g1 h.2.1)]
            exact (Aq.next_3_bad1 s w h0 h1 h2 hs c2.1 c2.2 (by omega)).mono fun e w' ⟨he, hw⟩ => Aq.NX_of hN he rfl rfl hw
      · by_cases c3 : 240 ≤ (s[0]'h0).toNat ∧ (s[0]'h0).toNat < 245
        · by_cases l4 : s.size < 4
          · have hN : Aq.nextL s.data.toList = (0, 0) := by unfold Aq.nextL; simp only [e0]; rw [if_neg c0, if_neg c1, if_neg c2, if_pos c3, if_neg (by omega)]
            exact (Aq.next_short s w h0 hs (.inr (.inr ⟨c3.1, c3.2, l4⟩))).mono fun e w' ⟨he, hw⟩ => Aq.NX_of hN he rfl rfl hw
          · have h1 : 1 < s.size := by omega
            have h2 : 2 < s.size := by omega
            have h3 : 3 < s.size := by omega
            have e1 := Aq.getD_at s 1 h1
            have e2 := Aq.getD_at s 2 h2
            have e3 := Aq.getD_at s 3 h3
            by_cases g1 : 128 ≤ (s[1]'h1).toNat ∧ (s[1]'h1).toNat < 192
            · by_cases g2 : 128 ≤ (s[2]'h2).toNat ∧ (s[2]'h2).toNat < 192
              · by_cases g3 : 128 ≤ (s[3]'h3).toNat ∧ (s[3]'h3).toNat < 192
                · by_cases v1 : ((((s[0]'h0).toNat - 240 : Int) * 64 + (s[1]'h1).toNat - 128) * 64 + (s[2]'h2).toNat - 128) * 64 + (s[3]'h3).toNat - 128 < 65536
                  · have hN : Aq.nextL s.data.toList = (0, 0) := by
                      unfold Aq.nextL; simp only [e0, e1, e2, e3]; rw [if_neg c0, if_neg c1, if_neg c2, if_pos c3, if_neg (by rintro ⟨-, -, -, -, h, -⟩; omega)]
                    exact (Aq.next_4_low s w h0 h1 h2 h3 hs c3.1 c3.2 g1 g2 g3 v1).mono fun e w' ⟨he, hw⟩ => Aq.NX_of hN he rfl rfl hw
                  · by_cases v2 : 1114111 < ((((s[0]'h0).toNat - 240 : Int) * 64 + (s[1]'h1).toNat - 128) * 64 + (s[2]'h2).toNat - 128) * 64 + (s[3]'h3).toNat - 128
                    · have hN : Aq.nextL s.data.toList = (0, 0) := by
                        unfold Aq.nextL; simp only [e0, e1, e2, e3]; rw [if_neg c0, if_neg c1, if_neg c2, if_pos c3, if_neg (by rintro ⟨-, -, -, -, -, h⟩; omega)]
                      exact (Aq.next_4_big s w h0 h1 h2 h3 hs c3.1 c3.2 g1 g2 g3 v2).mono fun e w' ⟨he, hw⟩ => Aq.NX_of hN he rfl rfl hw
                    · have hN : Aq.nextL s.data.toList = (((((s[0]'h0).toNat - 240) * 64 + ((s[1]'h1).toNat - 128)) * 64 + ((s[2]'h2).toNat - 128)) * 64 + ((s[3]'h3).toNat - 128), 4) := by
                        unfold Aq.nextL; simp only [e0, e1, e2, e3]; rw [if_neg c0, if_neg c1, if_neg c2, if_pos c3, if_pos ⟨by omega, Aq.contB_spec.2 g1, Aq.contB_spec.2 g2, Aq.contB_spec.2 g3, by omega, by omega⟩]
                      exact (Aq.next_4_ok s w h0 h1 h2 h3 hs c3.1 c3.2 g1 g2 g3 (by omega) (by omega)).mono fun e w' ⟨he, hw⟩ => Aq.NX_of hN he (by omega) rfl hw
                · have hN : Aq.nextL s.data.toList = (0, 0) := by
                    unfold Aq.nextL; simp only [e0, e1, e2, e3]; rw [if_neg c0, if_neg c1, if_neg c2, if_pos c3, if_neg (fun h => Aq.contB_no g3 h.2.2.2.1)]
                  exact (Aq.next_4_bad3 s w h0 h1 h2 h3 hs c3.1 c3.2 g1 g2 (by omega)).mono fun e w' ⟨he, hw⟩ => Aq.NX_of hN he rfl rfl hw
              · have hN : Aq.nextL s.data.toList = (0, 0) := by
                  unfold Aq.nextL; simp only [e0, e1, e2, e3]; rw [if_neg c0, if_neg c1, if_neg c2, if_pos c3, if_neg (fun h => Aq.contB_no g2 h.2.2.1)]
                exact (Aq.next_4_bad2 s w h0 h1 h2 h3 hs c3.1 c3.2 g1 (by omega)).mono fun e w' ⟨he, hw⟩ => Aq.NX_of hN he rfl rfl hw
            · have hN : Aq.nextL s.data.toList = (0, 0) := by
                unfold Aq.nextL; simp only [e0, e1, e2, e3]; rw [if_neg c0, if_neg c1, if_neg c2, if_pos c3, if_neg (fun h => Aq.contB_no g1 h.2.1)]
              exact (Aq.next_4_bad1 s w h0 h1 h2 h3 hs c3.1 c3.2 (by omega)).mono fun e w' ⟨he, hw⟩ => Aq.NX_of hN he rfl rfl hw
        · have hN : Aq.nextL s.data.toList = (0, 0) := by unfold Aq.nextL; simp only [e0]; rw [if_neg c0, if_neg c1, if_neg c2, if_neg c3]
          exact (Aq.next_none s w h0 hs (by omega) (by omega)).mono fun e w' ⟨he, hw⟩ => Aq.NX_of hN he rfl rfl hw
end Go.Proofs
