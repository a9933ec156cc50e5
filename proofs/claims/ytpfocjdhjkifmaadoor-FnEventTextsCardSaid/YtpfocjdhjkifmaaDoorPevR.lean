/- Events written as texts are read again. Conditions: none; no program in sight. -/
import Derived.Test.YtpfocjdhjkifmaaDoorPevM
import Derived.Test.YtpfocjdhjkifmaaDoorSplB
namespace Go.Proofs.YtpfocjdhjkifmaaDoor
set_option linter.unusedVariables false

theorem parts_join (b : UInt8) : ∀ (xs : List (List UInt8)), xs ≠ [] → (∀ p ∈ xs, b ∉ p) → TX.parts b (Lib.join xs [b]) = xs
  | [], h, _ => absurd rfl h
  | [x], _, hf => by rw [Lib.join_one]; exact TX.parts_none (hf x (by simp))
  | x :: y :: r, _, hf => by
    have e : Lib.join (x :: y :: r) [b] = x ++ b :: Lib.join (y :: r) [b] := by
      rw [Lib.join_cons, Lib.join_cons]; simp [Lib.joinTail]
    rw [e, TX.parts_hit (hf x (by simp)), parts_join b (y :: r) (by simp) (fun p hp => hf p (by simp [hp]))]
theorem peL_feL {l : List EV.Ev} (h : EV.isEvs l = true) : peL (feL l) = some l := by
  have hlen := (EV.isEvs_fw h).1
  have hm : ∀ e ∈ l, 0 ≤ e.time ∧ e.time ≤ 1000000 ∧ 0 ≤ e.key ∧ e.key ≤ 31 := by
    intro e he
    obtain ⟨j, hj, e1⟩ := List.getElem_of_mem he
    have := isEvs_mem h hj
    rw [List.getD_eq_getElem?_getD, List.getElem?_eq_getElem hj, e1] at this
    exact this
  by_cases h0 : l = []
  · subst h0
    unfold feL; rw [if_pos h]; rfl
  · have hfe : feL l = Lib.join (l.map evT) [32] := by unfold feL; rw [if_pos h]
    have hp : TX.parts 32 (feL l) = l.map evT := by
      rw [hfe]
      refine parts_join 32 _ (by simpa using h0) ?_
      intro p hp
      obtain ⟨e, he, rfl⟩ := List.mem_map.1 hp
      have := hm e he
      exact evT_free e this.1 (by omega) this.2.2.1 (by omega)
    have hpo : ∀ e ∈ l, peO (evT e) = some e := fun e he => by
      have := hm e he
      exact peO_evT this.1 (by omega) this.2.2.1 (by omega)
    have hmp : (l.map evT).map peE = l := by
      rw [List.map_map, List.map_congr_left (g := id), List.map_id]
      intro e he
      show peE (evT e) = e
      unfold peE; rw [hpo e he]; rfl
    have hne : feL l ≠ [] := by
      intro he
      rw [he] at hp
      have h1 : TX.parts 32 [] = [[]] := rfl
      rw [h1] at hp
      cases l with
      | nil => exact h0 rfl
      | cons a r =>
        rw [List.map_cons] at hp
        injection hp with h2
        unfold evT at h2
        simp at h2
    rw [peL_yes hne (by rw [hp, List.length_map]; exact hlen) ?_ (by rw [hp, hmp]; exact h), hp, hmp]
    rw [hp]
    intro p hp
    obtain ⟨e, he, rfl⟩ := List.mem_map.1 hp
    unfold peB; rw [hpo e he]; rfl
end Go.Proofs.YtpfocjdhjkifmaaDoor
