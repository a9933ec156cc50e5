/- Actions read from texts: by contract in the reference. Conditions: the library's table and MaxLen as the cards give them. -/
import Derived.Test.YtpfocjdhjkifmaaDoorPacS1
import Derived.Test.YtpfocjdhjkifmaaDoorPacS2
import Derived.Test.YtpfocjdhjkifmaaDoorPacS3
import Derived.Test.YtpfocjdhjkifmaaDoorPacS4
namespace Go.Proofs.YtpfocjdhjkifmaaDoor
open Go.RowKit
set_option linter.unusedVariables false

theorem two_of {xs : List (List UInt8)} (h : xs.length = 2) : ∃ p q, xs = [p, q] ∧ xs.getD 0 [] = p ∧ xs.getD 1 [] = q := by
  match xs, h with
  | [p, q], _ => exact ⟨p, q, rfl, rfl, rfl⟩
theorem sParseAction_any {w : World} (hp : Pow10 w) (hm : MaxL w) (s : ByteArray) (hs : s.size ≤ 1048576) : Calls Tryd.prog 39 #[.string s] w fun e w' => e = .returned (.tuple #[act4V (psV s.data.toList), .bool (psB s.data.toList)]) ∧ Below w.heap.size w w' := by
  by_cases h0 : s.data.toList = []
  · obtain ⟨e1, e2⟩ := ps_no (l := s.data.toList) (k := (gS s.data.toList).1) (c := (gS s.data.toList).2.1) (m := (gS s.data.toList).2.2.1) (n := (gS s.data.toList).2.2.2) rfl (Or.inl h0)
    rw [e1, e2]; exact sPA_nil s hs h0
  have key : ∀ (k c m n : Int), gS s.data.toList = (k, c, m, n) → (faL k c m n = s.data.toList → Calls Tryd.prog 39 #[.string s] w fun e w' => e = .returned (.tuple #[act4V (k, c, m, n), .bool true]) ∧ Below w.heap.size w w') →
      (faL k c m n ≠ s.data.toList → Calls Tryd.prog 39 #[.string s] w fun e w' => e = .returned (.tuple #[act4V (0, 0, 0, 0), .bool false]) ∧ Below w.heap.size w w') →
      Calls Tryd.prog 39 #[.string s] w fun e w' => e = .returned (.tuple #[act4V (psV s.data.toList), .bool (psB s.data.toList)]) ∧ Below w.heap.size w w' := by
    intro k c m n hg hy hn
    by_cases hf : faL k c m n = s.data.toList
    · obtain ⟨e1, e2⟩ := ps_yes hg h0 hf
      rw [e1, e2]; exact hy hf
    · obtain ⟨e1, e2⟩ := ps_no hg (Or.inr hf)
      rw [e1, e2]; exact hn hf
  by_cases hw1 : s.data.toList = [110, 111, 110, 101]
  · exact key 0 0 0 0 (by rw [hw1]; rfl) (fun hf => sPA_none_yes hp hm s hs hw1 hf) (fun hf => sPA_none_no hp hm s hs hw1 hf)
  by_cases hw2 : s.data.toList = [112, 97, 115, 115]
  · exact key 1 0 0 0 (by rw [hw2]; rfl) (fun hf => sPA_pass_yes hp hm s hs hw2 hf) (fun hf => sPA_pass_no hp hm s hs hw2 hf)
  by_cases hw3 : s.data.toList = [99, 97, 112, 115]
  · exact key 10 0 0 0 (by rw [hw3]; rfl) (fun hf => sPA_caps_yes hp hm s hs hw3 hf) (fun hf => sPA_caps_no hp hm s hs hw3 hf)
  have hwd : isWd s.data.toList = false := by unfold isWd; rw [decide_eq_false hw1, decide_eq_false hw2, decide_eq_false hw3]; rfl
  have hgs := gS_ne hwd
  by_cases h5 : (TX.parts 58 s.data.toList).length = 2
  · obtain ⟨p, q, hpq, e0, e1⟩ := two_of h5
    rw [if_pos h5, e0, e1] at hgs
    obtain ⟨⟨k, c, m, n⟩, hl5⟩ : ∃ a, l5L p q = a := ⟨_, rfl⟩
    have hr := gS_rng s.data.toList
    rw [hgs, hl5] at hr
    exact key k c m n (hgs.trans hl5) (fun hf => sPA_col_yes hp hm s hs hwd hpq h0 hl5 hr hf) (fun hf => sPA_col_no hp hm s hs hwd hpq h0 hl5 hr hf)
  rw [if_neg h5] at hgs
  by_cases h6 : (TX.parts 47 s.data.toList).length = 2
  · obtain ⟨p, q, hpq, e0, e1⟩ := two_of h6
    rw [if_pos h6, e0, e1] at hgs
    cases hpi : piB p
    · rw [hpi] at hgs
      exact key 6 _ _ 0 hgs (fun hf => sPA_sm_yes hp hm s hs hwd h5 hpq h0 hpi hf) (fun hf => sPA_sm_no hp hm s hs hwd h5 hpq h0 hpi hf)
    · rw [hpi] at hgs
      exact key 7 _ 0 _ hgs (fun hf => sPA_sn_yes hp hm s hs hwd h5 hpq h0 hpi hf) (fun hf => sPA_sn_no hp hm s hs hwd h5 hpq h0 hpi hf)
  rw [if_neg h6] at hgs
  by_cases h7 : (TX.parts 45 s.data.toList).length = 2
  · obtain ⟨p, q, hpq, e0, e1⟩ := two_of h7
    rw [if_pos h7, e0, e1] at hgs
    exact key 2 _ _ 0 hgs (fun hf => sPA_da_yes hp hm s hs hwd h5 h6 hpq h0 hf) (fun hf => sPA_da_no hp hm s hs hwd h5 h6 hpq h0 hf)
  rw [if_neg h7] at hgs
  exact key 2 _ 0 0 hgs (fun hf => sPA_nn_yes hp hm s hs hwd h5 h6 h7 h0 hf) (fun hf => sPA_nn_no hp hm s hs hwd h5 h6 h7 h0 hf)
end Go.Proofs.YtpfocjdhjkifmaaDoor
