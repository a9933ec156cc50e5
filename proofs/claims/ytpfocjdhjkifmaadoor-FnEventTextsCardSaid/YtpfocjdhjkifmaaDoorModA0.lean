/- The texts of modifiers, written and read: by contract in both programs. Conditions: none. -/
import Derived.Test.YtpfocjdhjkifmaaDoorTxtA
import Derived.Test.YtpfocjdhjkifmaaDoorTxtMath
namespace Go.Proofs.YtpfocjdhjkifmaaDoor
open Go.RowKit
set_option linter.unusedVariables false

theorem csag (j : Nat) (h : j < 4) : (ByteArray.mk #[67, 83, 65, 71]).extract j (j + 1) = st [TX.letter j] := by
  have hj : j = 0 ∨ j = 1 ∨ j = 2 ∨ j = 3 := by omega
  rcases hj with rfl | rfl | rfl | rfl <;> rfl
theorem fmL_bit (m : Int) (j : Nat) : TX.fmL m (j + 1) = if tbI m j then TX.fmL m j ++ [TX.letter j] else TX.fmL m j := by
  rw [TX.fmL]; unfold tbI; simp
theorem fmT_in {m : Int} (h : 1 ≤ m ∧ m ≤ 15) : TX.fmT m = TX.fmL m 4 := by unfold TX.fmT; rw [if_pos h]
theorem fmT_out {m : Int} (h : ¬ (1 ≤ m ∧ m ≤ 15)) : TX.fmT m = [] := by unfold TX.fmT; rw [if_neg h]
theorem st_app_size (l : List UInt8) (c : UInt8) (h : l.length ≤ 4) : ¬ ((st l).size + (st [c]).size > 9223372036854775807) := by
  rw [st_size, st_size]; simp; omega

set_option maxRecDepth 100000 in
set_option maxHeartbeats 1000000 in
theorem sFormatMods_any (m : Int) (hm : rng m) (w : World) : Calls Tryd.prog 54 #[.int .i64 m] w fun e w' => e = .returned (.string (st (TX.fmT m))) ∧ w = w' := by
  by_cases h : 1 ≤ m ∧ m ≤ 15
  · have H1 := hid (l1In_yes m 1 15 h)
    rw [fmT_in h]
    clear h
    go_enter Tryd.func54, Tryd.ntmps54
    go_wp2_with fail
    go_loop [3, 4] (fun s i => ∃ j : Nat, j ≤ 4 ∧ i = .int .i64 j ∧ s = .string (st (TX.fmL m j))) (fun _ i => 4 - (intOf i).toNat)
    case atStart => exact ⟨0, by omega, rfl, rfl⟩
    case round =>
      obtain ⟨j, hj, rfl, rfl⟩ := hrel
      have hl := TX.fmL_len m j
      by_cases hlt : j < 4
      · have e1 := and_one_shr m j hm
        have e3 := csag j hlt
        have e4 := st_app_size (TX.fmL m j) (TX.letter j) (by omega)
        have e5 : (j : Int) < 4 := by omega
        generalize hF : TX.fmL m j = F at *
        cases hb : tbI m j
        all_goals
          rw [hb] at e1
          simp only [if_true, Bool.false_eq_true, if_false] at e1
          go_wp2_with (go_at_call 43; (with_reducible refine (H1.out _).mono ?_); rintro e w' ⟨rfl, rfl⟩)
          go_round
          case rel => exact ⟨j + 1, by omega, by go_num, by first | (rw [fmL_bit, hb, if_neg (by simp), hF]; done) | (rw [fmL_bit, hb, if_pos rfl, hF, st_append]; done)⟩
          case measure => simp [intOf]; omega
      · obtain rfl : j = 4 := by omega
        go_wp2
        go_ret
        exact ⟨rfl, rfl⟩
  · have H1 := hid (l1In_no m 1 15 h)
    rw [fmT_out h]
    clear h
    go_enter Tryd.func54, Tryd.ntmps54
    go_wp2_with fail
    refine wp_loop_rounds 1 ?_; rw [rounds_succ]
    go_wp2_with (go_at_call 43; (with_reducible refine (H1.out _).mono ?_); rintro e w' ⟨rfl, rfl⟩)
    go_ret
    exact ⟨rfl, rfl⟩
theorem csag_cell (j : Nat) (h : j < 4) : (#[Value.string (ByteArray.mk #[67]), .string (ByteArray.mk #[83]), .string (ByteArray.mk #[65]), .string (ByteArray.mk #[71])])[j]? = some (.string (st [TX.letter j])) := by
  have hj : j = 0 ∨ j = 1 ∨ j = 2 ∨ j = 3 := by omega
  rcases hj with rfl | rfl | rfl | rfl <;> rfl
set_option maxRecDepth 100000 in
set_option maxHeartbeats 1000000 in
theorem iFormatMods_any (m : Int) (hm : rng m) (w : World) : Calls Tryd.prog 56 #[.int .i64 m] w fun e w' => e = .returned (.string (st (TX.fmT m))) ∧ Below w.heap.size w w' := by
  by_cases h : 1 ≤ m ∧ m ≤ 15
  · rw [fmT_in h]
    have h1 : ¬ m < 1 := by omega
    have h2 : ¬ 15 < m := by omega
    clear h
    have HB := hid (fun (k : Nat) (hk : k < 4) => bit_any m k hm (by omega))
    go_enter Tryd.func56, Tryd.ntmps56
    go_wp2_with fail
    have hblk := Blk.new w 9 #[Value.string (ByteArray.mk #[67]), .string (ByteArray.mk #[83]), .string (ByteArray.mk #[65]), .string (ByteArray.mk #[71])]
    go_loopw [3, 4, 5, 14] (fun s i l x wr => ∃ j : Nat, j ≤ 4 ∧ x = .int .i64 j ∧ s = .string (st (TX.fmL m j)) ∧ Blk wr w.heap.size 9 #[Value.string (ByteArray.mk #[67]), .string (ByteArray.mk #[83]), .string (ByteArray.mk #[65]), .string (ByteArray.mk #[71])] ∧ Below w.heap.size w wr) (fun _ _ _ i _ => 4 - (intOf i).toNat)
    case atStart => exact ⟨0, by omega, rfl, rfl, hblk, (Below.refl _ _).alloc (Nat.le_refl _) _⟩
    case round =>
      obtain ⟨j, hj, rfl, rfl, hbl, hbel⟩ := hrel
      have hl := TX.fmL_len m j
      by_cases hlt : j < 4
      · have hc := hbl.cell j
        rw [csag_cell j hlt] at hc
        have e4 := st_app_size (TX.fmL m j) (TX.letter j) (by omega)
        have e5 : (j : Int) < 4 := by omega
        have H1 := hid (HB.out j hlt)
        generalize hF : TX.fmL m j = F at *
        cases hb : tbI m j
        all_goals
          rw [hb] at H1
          simp only [b2i, if_true, Bool.false_eq_true, if_false] at H1
          go_wp2_with (go_at_call 79; (with_reducible refine (H1.out _).mono ?_); rintro e w' ⟨rfl, rfl⟩)
          go_roundw
          case rel => exact ⟨j + 1, by omega, by go_num, by first | (rw [fmL_bit, hb, if_neg (by simp), hF]; done) | (rw [fmL_bit, hb, if_pos rfl, hF, st_append]; done), hbl, hbel⟩
          case measure => simp [intOf]; omega
      · obtain rfl : j = 4 := by omega
        go_wp2
        go_ret
        exact ⟨rfl, hbel⟩
  · rw [fmT_out h]
    by_cases h1 : m < 1
    all_goals
      have h2 : ¬ m < 1 → 15 < m := by omega
      try replace h2 := h2 h1
      go_enter Tryd.func56, Tryd.ntmps56
      go_wp2
      go_ret
      exact ⟨rfl, Below.refl _ _⟩

theorem st_beq (a : List UInt8) (s : ByteArray) : ((st a).toList == s.toList) = decide (a = s.data.toList) := by
  rw [st_toList, ByteArray.toList_eq, Bool.eq_iff_iff]; simp
theorem pmK_yes {l : List UInt8} {f k : Nat} (h : TX.fmT k = l) : TX.pmK l (f + 1) k = k := by rw [TX.pmK, if_pos h]
theorem pmK_no {l : List UInt8} {f k : Nat} (h : ¬ TX.fmT k = l) : TX.pmK l (f + 1) k = TX.pmK l f (k + 1) := by rw [TX.pmK, if_neg h]
set_option maxRecDepth 100000 in
set_option maxHeartbeats 1000000 in
theorem sParseMods_any (s : ByteArray) (w : World) : Calls Tryd.prog 68 #[.string s] w fun e w' => e = .returned (.int .i64 (TX.pmT s.data.toList : Nat)) ∧ w = w' := by
  have HF := hid (fun (k : Nat) (hk : k ≤ 15) => sFormatMods_any (k : Int) (by unfold rng; omega))
  go_enter Tryd.func68, Tryd.ntmps68
  go_wp2_with fail
  go_loop [3] (fun i => ∃ j : Nat, 1 ≤ j ∧ j ≤ 16 ∧ i = .int .i64 j ∧ TX.pmT s.data.toList = TX.pmK s.data.toList (16 - j) j) (fun i => 16 - (intOf i).toNat)
  case atStart => exact ⟨1, by omega, by omega, rfl, rfl⟩
  case round =>
    obtain ⟨j, hj1, hj, rfl, hp⟩ := hrel
    have HP := hid hp; clear hp
    by_cases hlt : j ≤ 15
    · have H1 := hid (HF.out j hlt)
      have e5 : (j : Int) ≤ 15 := by omega
      have hq := st_beq (TX.fmT j) s
      by_cases hb : TX.fmT j = s.data.toList
      · rw [decide_eq_true hb] at hq
        have HB := hid hb; clear hb
        go_wp2_with (go_at_call 54; (with_reducible refine (H1.out _).mono ?_); rintro e w' ⟨rfl, rfl⟩)
        go_ret
        refine ⟨ret_int ?_, rfl⟩
        rw [HP.out, show 16 - j = (15 - j) + 1 by omega, pmK_yes HB.out]
      · rw [decide_eq_false hb] at hq
        have HB := hid hb; clear hb
        go_wp2_with (go_at_call 54; (with_reducible refine (H1.out _).mono ?_); rintro e w' ⟨rfl, rfl⟩)
        go_round
        case rel =>
          refine ⟨j + 1, by omega, by omega, by go_num, ?_⟩
          rw [HP.out, show 16 - j = (15 - j) + 1 by omega, pmK_no HB.out, show 16 - (j + 1) = 15 - j by omega]
        case measure => simp [intOf]; omega
    · obtain rfl : j = 16 := by omega
      go_wp2
      go_ret
      exact ⟨ret_int (by rw [HP.out]; rfl), rfl⟩
set_option maxRecDepth 100000 in
set_option maxHeartbeats 1000000 in
theorem iParseMods_any (s : ByteArray) (w : World) : Calls Tryd.prog 89 #[.string s] w fun e w' => e = .returned (.int .i64 (TX.pmT s.data.toList : Nat)) ∧ Below w.heap.size w w' := by
  have HF := hid (fun (k : Nat) (hk : k ≤ 15) => iFormatMods_any (k : Int) (by unfold rng; omega))
  go_enter Tryd.func89, Tryd.ntmps89
  go_wp2_with fail
  go_loopw [3] (fun i wr => ∃ j : Nat, 1 ≤ j ∧ j ≤ 16 ∧ i = .int .i64 j ∧ TX.pmT s.data.toList = TX.pmK s.data.toList (16 - j) j ∧ Below w.heap.size w wr) (fun i _ => 16 - (intOf i).toNat)
  case atStart => exact ⟨1, by omega, by omega, rfl, rfl, Below.refl _ _⟩
  case round =>
    obtain ⟨j, hj1, hj, rfl, hp, hbel⟩ := hrel
    have HP := hid hp; clear hp
    by_cases hlt : j ≤ 15
    · have H1 := hid (HF.out j hlt)
      have e5 : (j : Int) ≤ 15 := by omega
      have hq := st_beq (TX.fmT j) s
      by_cases hb : TX.fmT j = s.data.toList
      · rw [decide_eq_true hb] at hq
        have HB := hid hb; clear hb
        go_wp2_with (go_at_call 56; (with_reducible refine (H1.out _).mono ?_); rintro e w' ⟨rfl, hb1⟩)
        go_ret
        refine ⟨ret_int ?_, Below.step hbel hb1⟩
        rw [HP.out, show 16 - j = (15 - j) + 1 by omega, pmK_yes HB.out]
      · rw [decide_eq_false hb] at hq
        have HB := hid hb; clear hb
        go_wp2_with (go_at_call 56; (with_reducible refine (H1.out _).mono ?_); rintro e w' ⟨rfl, hb1⟩)
        go_roundw
        case rel =>
          refine ⟨j + 1, by omega, by omega, by go_num, ?_, Below.step hbel hb1⟩
          rw [HP.out, show 16 - j = (15 - j) + 1 by omega, pmK_no HB.out, show 16 - (j + 1) = 15 - j by omega]
        case measure => simp [intOf]; omega
    · obtain rfl : j = 16 := by omega
      go_wp2
      go_ret
      exact ⟨ret_int (by rw [HP.out]; rfl), hbel⟩
end Go.Proofs.YtpfocjdhjkifmaaDoor
