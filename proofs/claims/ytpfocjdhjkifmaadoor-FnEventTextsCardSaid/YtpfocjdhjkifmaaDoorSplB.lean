/- The library's parts of a text are the plain ones. Conditions: none. -/
import Derived.Test.YtpfocjdhjkifmaaDoorSplA
import Derived.Lib.CountLaws
import Derived.Lib.SplitLaws
import Derived.Lib.IndexLaws
import Derived.Lib.IndexBytes
namespace Go.Proofs.YtpfocjdhjkifmaaDoor
set_option linter.unusedVariables false

namespace TX
theorem spS_gen (b : UInt8) : ∀ (l : List UInt8) (D : List (List UInt8)) (c : List UInt8), l.foldl (stp b) (D, c) = (D ++ (l.foldl (stp b) ([], c)).1, (l.foldl (stp b) ([], c)).2)
  | [], D, c => by simp
  | x :: l, D, c => by
    simp only [List.foldl_cons]
    by_cases h : x = b
    · have e1 : stp b (D, c) x = (D ++ [c], []) := by unfold stp; simp [h]
      have e2 : stp b ([], c) x = ([c], []) := by unfold stp; simp [h]
      rw [e1, e2, spS_gen b l (D ++ [c]) [], spS_gen b l [c] []]
      simp
    · have e1 : stp b (D, c) x = (D, c ++ [x]) := by unfold stp; simp [h]
      have e2 : stp b ([], c) x = ([], c ++ [x]) := by unfold stp; simp [h]
      rw [e1, e2, spS_gen b l D (c ++ [x])]
theorem spS_no (b : UInt8) : ∀ (l c : List UInt8), b ∉ l → l.foldl (stp b) ([], c) = ([], c ++ l)
  | [], c, _ => by simp
  | x :: l, c, h => by
    have h1 : x ≠ b := fun e => h (by simp [e])
    have h2 : b ∉ l := fun e => h (by simp [e])
    have e1 : stp b ([], c) x = ([], c ++ [x]) := by unfold stp; simp [h1]
    rw [List.foldl_cons, e1, spS_no b l (c ++ [x]) h2]; simp
theorem parts_none {b : UInt8} {l : List UInt8} (h : b ∉ l) : parts b l = [l] := by
  unfold parts spS; rw [spS_no b l [] h]; rfl
theorem parts_hit {b : UInt8} {l r : List UInt8} (h : b ∉ l) : parts b (l ++ b :: r) = l :: parts b r := by
  unfold parts spS
  have e1 : stp b ([], [] ++ l) b = ([l], []) := by unfold stp; simp
  rw [List.foldl_append, spS_no b l [] h, List.foldl_cons, e1, spS_gen b r [l] []]; simp
end TX
theorem indexB_byte (s : ByteArray) (b : UInt8) : Lib.indexB s ⟨#[b]⟩ = Lib.indexByte s.data.toList b := Lib.index_one s.data.toList b
theorem splitB_parts (b : UInt8) : ∀ (n : Nat) (s : ByteArray), s.size ≤ n → Lib.splitB ⟨#[b]⟩ 0 (Lib.countB s ⟨#[b]⟩) s = (TX.parts b s.data.toList).map st := by
  intro n
  induction n with
  | zero =>
    intro s hs
    have h0 : s.data.toList = [] := by
      have h2 : s.data.toList.length = s.size := by rw [Array.length_toList]; rfl
      exact List.eq_nil_of_length_eq_zero (by omega)
    have hi : Lib.indexB s ⟨#[b]⟩ = -1 := by rw [indexB_byte, h0]; rfl
    rw [Lib.countB_miss _ _ hi, Lib.splitB_zero, h0]
    have : s = st [] := by rw [← st_of s, h0]
    rw [this]; rfl
  | succ n ih =>
    intro s hs
    have hlen : s.data.toList.length = s.size := by rw [Array.length_toList]; rfl
    have hge := Lib.indexByte_ge s.data.toList b
    by_cases hi : Lib.indexByte s.data.toList b = -1
    · have hi2 : Lib.indexB s ⟨#[b]⟩ = -1 := by rw [indexB_byte, hi]
      rw [Lib.countB_miss _ _ hi2, Lib.splitB_zero, TX.parts_none (fun hm => ?_)]
      · simp [st_of]
      · obtain ⟨k, hk⟩ := List.getElem?_of_mem hm
        exact Lib.indexByte_none hi k hk
    · obtain ⟨i, hi1⟩ := Int.eq_ofNat_of_zero_le (show 0 ≤ Lib.indexByte s.data.toList b by omega)
      obtain ⟨h1, h2⟩ := Lib.indexByte_some hi1
      have hi2 : Lib.indexB s ⟨#[b]⟩ = (i : Nat) := by rw [indexB_byte, hi1]
      have hlt : i < s.data.toList.length := by
        rcases Nat.lt_or_ge i s.data.toList.length with h | h
        · exact h
        · rw [List.getElem?_eq_none h] at h1; cases h1
      have hsz : (ByteArray.mk #[b]).size = 1 := rfl
      rw [Lib.countB_hit s ⟨#[b]⟩ i (by rw [hsz]; exact Nat.le_refl _) hi2, Nat.add_comm 1, Lib.splitB_hit _ _ _ _ _ hi2, hsz]
      have hx1 : s.extract 0 (i + 0) = st (s.data.toList.take i) := by rw [extract_st]; simp
      have hx2 : s.extract (i + 1) s.size = st (s.data.toList.drop (i + 1)) := by
        rw [extract_st, List.take_of_length_le (by rw [List.length_drop]; omega)]
      have hsp : s.data.toList = s.data.toList.take i ++ b :: s.data.toList.drop (i + 1) := by
        have h3 : s.data.toList[i] = b := by rw [List.getElem?_eq_getElem hlt] at h1; simpa using h1
        rw [← h3, ← List.drop_eq_getElem_cons hlt, List.take_append_drop]
      have hnm : b ∉ s.data.toList.take i := fun hm => by
        obtain ⟨k, hk⟩ := List.getElem?_of_mem hm
        have hk2 : k < i := by
          rcases Nat.lt_or_ge k i with h | h
          · exact h
          · rw [List.getElem?_eq_none (by rw [List.length_take]; omega)] at hk; cases hk
        rw [List.getElem?_take, if_pos hk2] at hk
        exact h2 k hk2 hk
      rw [hx1, hx2]
      have hr := ih (st (s.data.toList.drop (i + 1))) (by rw [st_size, List.length_drop]; omega)
      rw [hr]
      have hq : TX.parts b s.data.toList = s.data.toList.take i :: TX.parts b (s.data.toList.drop (i + 1)) := by
        conv => lhs; rw [hsp]
        exact TX.parts_hit hnm
      rw [hq]; rfl
end Go.Proofs.YtpfocjdhjkifmaaDoor
